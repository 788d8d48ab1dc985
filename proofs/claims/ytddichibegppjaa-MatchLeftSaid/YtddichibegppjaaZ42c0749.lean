/- Replacement's text: put, and the reference's by. -/
import Derived.Test.YtddichibegppjaaW0
import Derived.Test.YtddichibegppjaaVp
import Derived.Test.YtddichibegppjaaZaa6432f
import Derived.Test.YtddichibegppjaaVs
import Derived.Test.YtddichibegppjaaZfc088f9
set_option linter.unusedSimpArgs false
set_option linter.unusedVariables false
set_option maxRecDepth 100000
set_option maxHeartbeats 8000000
attribute [local irreducible] Go.VC.OpV Go.VC.CallV Go.VC.Wp Go.VC.post
namespace Go.Proofs.Ytddichibegppjaa
open Go Go.VC Go.RowKit

def byL (f : List UInt8) : List UInt8 → List UInt8
  | [] => []
  | [c] => if c = 38 then f else [c]
  | c :: d :: t => if c = 38 then f ++ byL f (d :: t) else if c = 92 ∧ (d = 38 ∨ d = 92) then d :: byL f t else c :: byL f (d :: t)

theorem drop_cons {l : List UInt8} {i : Nat} (h : i < l.length) : l.drop i = byteAt l i :: l.drop (i + 1) := by
  rw [List.drop_eq_getElem_cons h]; simp [byteAt, List.getD_eq_getElem?_getD, h]
theorem byL_amp {f l : List UInt8} {i : Nat} (h : i < l.length) (hc : byteAt l i = 38) : byL f (l.drop i) = f ++ byL f (l.drop (i + 1)) := by
  rw [drop_cons h, hc]
  rcases Nat.lt_or_ge (i + 1) l.length with h1 | h1
  · rw [drop_cons h1]; simp [byL]
  · rw [List.drop_of_length_le h1]; simp [byL]
theorem byL_esc {f l : List UInt8} {i : Nat} (h : i + 1 < l.length) (hc : byteAt l i = 92) (hd : byteAt l (i + 1) = 38 ∨ byteAt l (i + 1) = 92) : byL f (l.drop i) = byteAt l (i + 1) :: byL f (l.drop (i + 2)) := by
  rw [drop_cons (by omega : i < l.length), drop_cons h, hc]
  rw [byL, if_neg (by decide), if_pos ⟨rfl, hd⟩]
theorem byL_one {f l : List UInt8} {i : Nat} (h : i < l.length) (hc : byteAt l i ≠ 38) (hd : ¬ (byteAt l i = 92 ∧ i + 1 < l.length ∧ (byteAt l (i + 1) = 38 ∨ byteAt l (i + 1) = 92))) : byL f (l.drop i) = byteAt l i :: byL f (l.drop (i + 1)) := by
  rw [drop_cons h]
  rcases Nat.lt_or_ge (i + 1) l.length with h1 | h1
  · rw [drop_cons h1]
    have : ¬ (byteAt l i = 92 ∧ (byteAt l (i + 1) = 38 ∨ byteAt l (i + 1) = 92)) := fun ⟨a, b⟩ => hd ⟨a, h1, b⟩
    rw [byL, if_neg hc, if_neg this]
  · rw [List.drop_of_length_le h1]
    show (if byteAt l i = 38 then f else [byteAt l i]) = _
    rw [if_neg hc]; rfl
theorem byL_len (f : List UInt8) : ∀ r : List UInt8, (byL f r).length ≤ r.length * (f.length + 1)
  | [] => by simp [byL]
  | [c] => by simp only [byL]; split <;> simp
  | c :: d :: t => by
    have h1 := byL_len f (d :: t)
    have h2 := byL_len f t
    have e1 : (t.length + 1 + 1) * (f.length + 1) = (t.length + 1) * (f.length + 1) + (f.length + 1) := Nat.succ_mul _ _
    have e2 : (t.length + 1) * (f.length + 1) = t.length * (f.length + 1) + (f.length + 1) := Nat.succ_mul _ _
    simp only [byL, List.length_cons] at *
    split
    · rw [List.length_append]; omega
    · split <;> simp only [List.length_cons] <;> omega

theorem prefix2 {l : List UInt8} {i : Nat} (a b : UInt8) (h : i < l.length) : Lib.hasPrefix (l.drop i) [a, b] = (byteAt l i == a && (decide (i + 1 < l.length) && byteAt l (i + 1) == b)) := by
  rw [drop_cons h]
  rcases Nat.lt_or_ge (i + 1) l.length with h1 | h1
  · rw [drop_cons h1]; simp [Lib.hasPrefix, List.isPrefixOf, h1, Bool.beq_comm]
  · rw [List.drop_of_length_le h1]
    have : ¬ i + 1 < l.length := by omega
    simp [Lib.hasPrefix, List.isPrefixOf, this]

theorem hp_any (s p : ByteArray) (w : World) : Calls Try.prog 74 #[.string s, .string p] w fun e w' => e = .returned (.bool (Lib.hasPrefix s.data.toList p.data.toList)) ∧ w = w' :=
  (Try.strings_HasPrefix s p w).mono fun _ _ ⟨h1, h2⟩ => ⟨h1, h2.symm⟩
section
variable {B0 b : Nat} {l r f : List UInt8} {w : World}

theorem put_any (h : Bd B0 b l w) (hr : r.length ≤ 1000000) (hf : f.length ≤ 1000000) (hlen : l.length + (byL f r).length ≤ 1000000000000) :
    Calls Try.prog 53 #[.pointer (some ⟨b, 0, none⟩), .string (B r), .string (B f)] w fun e w' => e = .returned (.tuple #[]) ∧ Bd B0 b (l ++ byL f r) w' ∧ Below B0 w w' := by
  refine enter (n := 44) (args := [.pointer (some ⟨b, 0, none⟩), .string (B r), .string (B f)]) Try.func53 rfl rfl rfl (by simp) ?_
  repeat (first | refine qS ?_ | refine qB ?_ | refine qT rfl ?_ | refine qF rfl ?_ | ((first | refine qR rfl ?_ | refine qK ?_ | refine qE ?_ | refine qW ?_ | refine qM ?_); try simp -dsimp (maxSteps := 2000000) (disch := first | omega | (simp only [qZ] <;> omega) | fail) only [push_cast, ↓qP, ↓reduceIte, Nat.reduceEqDiff, Nat.reduceAdd, Nat.reduceMul, Nat.reduceSub, Nat.reduceLeDiff, Int.reduceToNat, reduceCtorEq]) | (refine qA ?_ ?_; (first | omega | (simp only [qL]; omega) | (simp only [qD] at *; omega))))
  refine Wp.loop (α := Nat) (fun i F W => F 0 = .pointer (some ⟨b, 0, none⟩) ∧ F 1 = .string (B r) ∧ F 2 = .string (B f) ∧ F 6 = .int .i64 i ∧ i ≤ r.length ∧ ∃ o, Bd B0 b o W ∧ Below B0 w W ∧ Hide (o ++ byL f (r.drop i) = l ++ byL f r)) (fun i => r.length - i) 0
    ⟨by simp [upd, arg], by simp [upd, arg], by simp [upd, arg], by simp [upd, arg], by omega, l, h, Below.refl _ _, ⟨by simp⟩⟩ ?_
  clear h
  rintro i F W ⟨f0, f1, f2, f6, hi, o, hB, k1, heq⟩
  have holen : o.length + (byL f (r.drop i)).length ≤ 1000000000000 := by have := congrArg List.length heq.out; rw [List.length_append, List.length_append] at this; omega
  rcases Nat.lt_or_ge i r.length with hlt | hge
  case inr =>
    have c1 : decide ((i : Int) < (r.length : Int)) = false := decide_eq_false (by omega)
    have heq1 := heq.out
    rw [List.drop_of_length_le hge] at heq1
    simp only [byL, List.append_nil] at heq1
    repeat (first | refine qS ?_ | refine qB ?_ | refine qT rfl ?_ | refine qF rfl ?_ | ((first | refine qR rfl ?_ | refine qK ?_ | refine qE ?_ | refine qW ?_ | refine qM ?_); try simp -dsimp (maxSteps := 2000000) (disch := first | omega | (simp only [qZ] <;> omega) | fail) only [push_cast, ↓qP, ↓reduceIte, Nat.reduceEqDiff, Nat.reduceAdd, Nat.reduceMul, Nat.reduceSub, Nat.reduceLeDiff, Int.reduceToNat, reduceCtorEq, f0, f1, f2, f6, c1]) | (refine qA ?_ ?_; (first | omega | (simp only [qL]; omega) | (simp only [qD] at *; omega))))
    exact Ret.mk ⟨rfl, heq1 ▸ hB, k1⟩
  have c1 : decide ((i : Int) < (r.length : Int)) = true := decide_eq_true (by omega)
  have hix : ((i : Int) + 1).toNat = i + 1 := by omega
  by_cases hamp : byteAt r i = 38
  · have ha : (((byteAt r i).toNat : Int) == 38) = true := by rw [hamp]; rfl
    have e1 := byL_amp (f := f) hlt hamp
    have hf' : o.length + f.length ≤ 1000000000000 := by rw [e1, List.length_append] at holen; omega
    repeat (first | refine qS ?_ | refine qB ?_ | refine qT rfl ?_ | refine qF rfl ?_ | ((first | refine qR rfl ?_ | refine qK ?_ | refine qE ?_ | refine qW ?_ | refine qM ?_); try simp -dsimp (maxSteps := 2000000) (disch := first | omega | (simp only [qZ] <;> omega) | fail) only [push_cast, ↓qP, ↓reduceIte, Nat.reduceEqDiff, Nat.reduceAdd, Nat.reduceMul, Nat.reduceSub, Nat.reduceLeDiff, Int.reduceToNat, reduceCtorEq, f0, f1, f2, f6, c1, ha]) | (refine qA ?_ ?_; (first | omega | (simp only [qL]; omega) | (simp only [qD] at *; omega))))
    refine CallV.of isCall_52 (ws_any hB f (by omega)) ?_
    rintro _ W2 ⟨rfl, hB2, k2⟩
    refine Sm.out ?_
    repeat (first | refine qS ?_ | refine qB ?_ | refine qT rfl ?_ | refine qF rfl ?_ | ((first | refine qR rfl ?_ | refine qK ?_ | refine qE ?_ | refine qW ?_ | refine qM ?_); try simp -dsimp (maxSteps := 2000000) (disch := first | omega | (simp only [qZ] <;> omega) | fail) only [push_cast, ↓qP, ↓reduceIte, Nat.reduceEqDiff, Nat.reduceAdd, Nat.reduceMul, Nat.reduceSub, Nat.reduceLeDiff, Int.reduceToNat, reduceCtorEq, f0, f1, f2, f6]) | (refine qA ?_ ?_; (first | omega | (simp only [qL]; omega) | (simp only [qD] at *; omega))))
    exact Again.mk (i + 1) ⟨by simp [upd, f0], by simp [upd, f1], by simp [upd, f2], by simp [upd, f6], by omega, o ++ f, hB2, k1.trans k2, ⟨by rw [← heq.out, e1, List.append_assoc]⟩⟩ (by omega)
  have ha : (((byteAt r i).toNat : Int) == 38) = false := by rw [show (((byteAt r i).toNat : Int) == 38) = (byteAt r i == 38) from u8_eq' _ 38]; simpa using hamp
  have tk : (r.drop i).take (r.length - i) = r.drop i := List.take_of_length_le (by simp)
  have p1 : Lib.hasPrefix ((r.drop i).take (r.length - i)) [92, 38] = (byteAt r i == 92 && (decide (i + 1 < r.length) && byteAt r (i + 1) == 38)) := by rw [tk]; exact prefix2 92 38 hlt
  have p2 : Lib.hasPrefix ((r.drop i).take (r.length - i)) [92, 92] = (byteAt r i == 92 && (decide (i + 1 < r.length) && byteAt r (i + 1) == 92)) := by rw [tk]; exact prefix2 92 92 hlt
  clear tk
  by_cases hesc : byteAt r i = 92 ∧ i + 1 < r.length ∧ (byteAt r (i + 1) = 38 ∨ byteAt r (i + 1) = 92)
  · obtain ⟨q1, q2, q3⟩ := hesc
    have e1 := byL_esc (f := f) q2 q1 q3
    have ho' : o.length + 1 ≤ 1000000000000 := by rw [e1, List.length_cons] at holen; omega
    rw [q1, decide_eq_true q2] at p1 p2
    rcases q3 with q3 | q3
    · rw [q3, show ((92 : UInt8) == 92 && (true && (38 : UInt8) == 38)) = true from rfl] at p1
      clear p2
      repeat (first | refine qS ?_ | refine qB ?_ | refine qT rfl ?_ | refine qF rfl ?_ | ((first | refine qR rfl ?_ | refine qK ?_ | refine qE ?_ | refine qW ?_ | refine qM ?_); try simp -dsimp (maxSteps := 2000000) (disch := first | omega | (simp only [qZ] <;> omega) | fail) only [push_cast, ↓qP, ↓reduceIte, Nat.reduceEqDiff, Nat.reduceAdd, Nat.reduceMul, Nat.reduceSub, Nat.reduceLeDiff, Int.reduceToNat, reduceCtorEq, f0, f1, f2, f6, c1, ha]) | (refine qA ?_ ?_; (first | omega | (simp only [qL]; omega) | (simp only [qD] at *; omega))))
      refine CallV.of isCall_74 (hp_any _ _ _) ?_
      rintro _ _ ⟨rfl, rfl⟩
      refine Sm.out ?_
      repeat (first | refine qS ?_ | refine qB ?_ | refine qT rfl ?_ | refine qF rfl ?_ | ((first | refine qR rfl ?_ | refine qK ?_ | refine qE ?_ | refine qW ?_ | refine qM ?_); try simp -dsimp (maxSteps := 2000000) (disch := first | omega | (simp only [qZ] <;> omega) | fail) only [push_cast, ↓qP, ↓reduceIte, Nat.reduceEqDiff, Nat.reduceAdd, Nat.reduceMul, Nat.reduceSub, Nat.reduceLeDiff, Int.reduceToNat, reduceCtorEq, p1, f0, f1, f2, f6, hix]) | (refine qA ?_ ?_; (first | omega | (simp only [qL]; omega) | (simp only [qD] at *; omega))))
      refine CallV.of isCall_55 (wb_any hB _ (by omega)) ?_
      rintro _ W2 ⟨rfl, hB2, k2⟩
      refine Sm.out ?_
      repeat (first | refine qS ?_ | refine qB ?_ | refine qT rfl ?_ | refine qF rfl ?_ | ((first | refine qR rfl ?_ | refine qK ?_ | refine qE ?_ | refine qW ?_ | refine qM ?_); try simp -dsimp (maxSteps := 2000000) (disch := first | omega | (simp only [qZ] <;> omega) | fail) only [push_cast, ↓qP, ↓reduceIte, Nat.reduceEqDiff, Nat.reduceAdd, Nat.reduceMul, Nat.reduceSub, Nat.reduceLeDiff, Int.reduceToNat, reduceCtorEq, f0, f1, f2, f6]) | (refine qA ?_ ?_; (first | omega | (simp only [qL]; omega) | (simp only [qD] at *; omega))))
      exact Again.mk (i + 2) ⟨by simp [upd, f0], by simp [upd, f1], by simp [upd, f2], by simp [upd, f6]; omega, by omega, _, hB2, k1.trans k2, ⟨by rw [← heq.out, e1, List.append_assoc]; rfl⟩⟩ (by omega)
    · rw [q3, show ((92 : UInt8) == 92 && (true && (92 : UInt8) == 38)) = false from rfl] at p1
      rw [q3, show ((92 : UInt8) == 92 && (true && (92 : UInt8) == 92)) = true from rfl] at p2
      repeat (first | refine qS ?_ | refine qB ?_ | refine qT rfl ?_ | refine qF rfl ?_ | ((first | refine qR rfl ?_ | refine qK ?_ | refine qE ?_ | refine qW ?_ | refine qM ?_); try simp -dsimp (maxSteps := 2000000) (disch := first | omega | (simp only [qZ] <;> omega) | fail) only [push_cast, ↓qP, ↓reduceIte, Nat.reduceEqDiff, Nat.reduceAdd, Nat.reduceMul, Nat.reduceSub, Nat.reduceLeDiff, Int.reduceToNat, reduceCtorEq, f0, f1, f2, f6, c1, ha]) | (refine qA ?_ ?_; (first | omega | (simp only [qL]; omega) | (simp only [qD] at *; omega))))
      refine CallV.of isCall_74 (hp_any _ _ _) ?_
      rintro _ _ ⟨rfl, rfl⟩
      refine Sm.out ?_
      repeat (first | refine qS ?_ | refine qB ?_ | refine qT rfl ?_ | refine qF rfl ?_ | ((first | refine qR rfl ?_ | refine qK ?_ | refine qE ?_ | refine qW ?_ | refine qM ?_); try simp -dsimp (maxSteps := 2000000) (disch := first | omega | (simp only [qZ] <;> omega) | fail) only [push_cast, ↓qP, ↓reduceIte, Nat.reduceEqDiff, Nat.reduceAdd, Nat.reduceMul, Nat.reduceSub, Nat.reduceLeDiff, Int.reduceToNat, reduceCtorEq, p1, f0, f1, f2, f6, hix]) | (refine qA ?_ ?_; (first | omega | (simp only [qL]; omega) | (simp only [qD] at *; omega))))
      refine CallV.of isCall_74 (hp_any _ _ _) ?_
      rintro _ _ ⟨rfl, rfl⟩
      refine Sm.out ?_
      repeat (first | refine qS ?_ | refine qB ?_ | refine qT rfl ?_ | refine qF rfl ?_ | ((first | refine qR rfl ?_ | refine qK ?_ | refine qE ?_ | refine qW ?_ | refine qM ?_); try simp -dsimp (maxSteps := 2000000) (disch := first | omega | (simp only [qZ] <;> omega) | fail) only [push_cast, ↓qP, ↓reduceIte, Nat.reduceEqDiff, Nat.reduceAdd, Nat.reduceMul, Nat.reduceSub, Nat.reduceLeDiff, Int.reduceToNat, reduceCtorEq, p2, f0, f1, f2, f6, hix]) | (refine qA ?_ ?_; (first | omega | (simp only [qL]; omega) | (simp only [qD] at *; omega))))
      refine CallV.of isCall_55 (wb_any hB _ (by omega)) ?_
      rintro _ W2 ⟨rfl, hB2, k2⟩
      refine Sm.out ?_
      repeat (first | refine qS ?_ | refine qB ?_ | refine qT rfl ?_ | refine qF rfl ?_ | ((first | refine qR rfl ?_ | refine qK ?_ | refine qE ?_ | refine qW ?_ | refine qM ?_); try simp -dsimp (maxSteps := 2000000) (disch := first | omega | (simp only [qZ] <;> omega) | fail) only [push_cast, ↓qP, ↓reduceIte, Nat.reduceEqDiff, Nat.reduceAdd, Nat.reduceMul, Nat.reduceSub, Nat.reduceLeDiff, Int.reduceToNat, reduceCtorEq, f0, f1, f2, f6]) | (refine qA ?_ ?_; (first | omega | (simp only [qL]; omega) | (simp only [qD] at *; omega))))
      exact Again.mk (i + 2) ⟨by simp [upd, f0], by simp [upd, f1], by simp [upd, f2], by simp [upd, f6]; omega, by omega, _, hB2, k1.trans k2, ⟨by rw [← heq.out, e1, List.append_assoc]; rfl⟩⟩ (by omega)
  · have e1 := byL_one (f := f) hlt hamp hesc
    have ho' : o.length + 1 ≤ 1000000000000 := by rw [e1, List.length_cons] at holen; omega
    have n1 : (byteAt r i == 92 && (decide (i + 1 < r.length) && byteAt r (i + 1) == 38)) = false := by
      rw [← Bool.not_eq_true]; simp only [Bool.and_eq_true, beq_iff_eq, decide_eq_true_eq]; exact fun ⟨a, b, c⟩ => hesc ⟨a, b, .inl c⟩
    have n2 : (byteAt r i == 92 && (decide (i + 1 < r.length) && byteAt r (i + 1) == 92)) = false := by
      rw [← Bool.not_eq_true]; simp only [Bool.and_eq_true, beq_iff_eq, decide_eq_true_eq]; exact fun ⟨a, b, c⟩ => hesc ⟨a, b, .inr c⟩
    rw [n1] at p1
    rw [n2] at p2
    clear hesc n1 n2
    repeat (first | refine qS ?_ | refine qB ?_ | refine qT rfl ?_ | refine qF rfl ?_ | ((first | refine qR rfl ?_ | refine qK ?_ | refine qE ?_ | refine qW ?_ | refine qM ?_); try simp -dsimp (maxSteps := 2000000) (disch := first | omega | (simp only [qZ] <;> omega) | fail) only [push_cast, ↓qP, ↓reduceIte, Nat.reduceEqDiff, Nat.reduceAdd, Nat.reduceMul, Nat.reduceSub, Nat.reduceLeDiff, Int.reduceToNat, reduceCtorEq, f0, f1, f2, f6, c1, ha]) | (refine qA ?_ ?_; (first | omega | (simp only [qL]; omega) | (simp only [qD] at *; omega))))
    refine CallV.of isCall_74 (hp_any _ _ _) ?_
    rintro _ _ ⟨rfl, rfl⟩
    refine Sm.out ?_
    repeat (first | refine qS ?_ | refine qB ?_ | refine qT rfl ?_ | refine qF rfl ?_ | ((first | refine qR rfl ?_ | refine qK ?_ | refine qE ?_ | refine qW ?_ | refine qM ?_); try simp -dsimp (maxSteps := 2000000) (disch := first | omega | (simp only [qZ] <;> omega) | fail) only [push_cast, ↓qP, ↓reduceIte, Nat.reduceEqDiff, Nat.reduceAdd, Nat.reduceMul, Nat.reduceSub, Nat.reduceLeDiff, Int.reduceToNat, reduceCtorEq, p1, f0, f1, f2, f6, hix]) | (refine qA ?_ ?_; (first | omega | (simp only [qL]; omega) | (simp only [qD] at *; omega))))
    refine CallV.of isCall_74 (hp_any _ _ _) ?_
    rintro _ _ ⟨rfl, rfl⟩
    refine Sm.out ?_
    repeat (first | refine qS ?_ | refine qB ?_ | refine qT rfl ?_ | refine qF rfl ?_ | ((first | refine qR rfl ?_ | refine qK ?_ | refine qE ?_ | refine qW ?_ | refine qM ?_); try simp -dsimp (maxSteps := 2000000) (disch := first | omega | (simp only [qZ] <;> omega) | fail) only [push_cast, ↓qP, ↓reduceIte, Nat.reduceEqDiff, Nat.reduceAdd, Nat.reduceMul, Nat.reduceSub, Nat.reduceLeDiff, Int.reduceToNat, reduceCtorEq, p2, f0, f1, f2, f6, hix]) | (refine qA ?_ ?_; (first | omega | (simp only [qL]; omega) | (simp only [qD] at *; omega))))
    refine CallV.of isCall_55 (wb_any hB _ (by omega)) ?_
    rintro _ W2 ⟨rfl, hB2, k2⟩
    refine Sm.out ?_
    repeat (first | refine qS ?_ | refine qB ?_ | refine qT rfl ?_ | refine qF rfl ?_ | ((first | refine qR rfl ?_ | refine qK ?_ | refine qE ?_ | refine qW ?_ | refine qM ?_); try simp -dsimp (maxSteps := 2000000) (disch := first | omega | (simp only [qZ] <;> omega) | fail) only [push_cast, ↓qP, ↓reduceIte, Nat.reduceEqDiff, Nat.reduceAdd, Nat.reduceMul, Nat.reduceSub, Nat.reduceLeDiff, Int.reduceToNat, reduceCtorEq, f0, f1, f2, f6]) | (refine qA ?_ ?_; (first | omega | (simp only [qL]; omega) | (simp only [qD] at *; omega))))
    exact Again.mk (i + 1) ⟨by simp [upd, f0], by simp [upd, f1], by simp [upd, f2], by simp [upd, f6], by omega, _, hB2, k1.trans k2, ⟨by rw [← heq.out, e1, List.append_assoc]; rfl⟩⟩ (by omega)
end

section
variable {r f : List UInt8} {w : World}
theorem str1 (c : UInt8) (t : List UInt8) : B t ++ B [c] = B (t ++ [c]) := B_append _ _

theorem by_any (hr : r.length ≤ 1000000) (hf : f.length ≤ 1000000) :
    Calls Try.prog 60 #[.string (B r), .string (B f)] w fun e w' => e = .returned (.string (B (byL f r))) ∧ Kp (fun _ => False) w w' := by
  refine enter (n := 59) (args := [.string (B r), .string (B f)]) Try.func60 rfl rfl rfl (by simp) ?_
  repeat (first | refine qS ?_ | refine qB ?_ | refine qT rfl ?_ | refine qF rfl ?_ | ((first | refine qR rfl ?_ | refine qK ?_ | refine qE ?_ | refine qW ?_ | refine qM ?_); try simp -dsimp (maxSteps := 2000000) (disch := first | omega | (simp only [qZ] <;> omega) | fail) only [push_cast, ↓qP, ↓reduceIte, Nat.reduceEqDiff, Nat.reduceAdd, Nat.reduceMul, Nat.reduceSub, Nat.reduceLeDiff, Int.reduceToNat, reduceCtorEq]) | (refine qA ?_ ?_; (first | omega | (simp only [qL]; omega) | (simp only [qD] at *; omega))))
  refine Wp.loop (α := Nat) (fun i F W => F 0 = .string (B r) ∧ F 1 = .string (B f) ∧ F 6 = .int .i64 i ∧ i ≤ r.length ∧ Kp (fun _ => False) w W ∧ ∃ o, F 5 = .string (B o) ∧ Hide (o ++ byL f (r.drop i) = byL f r)) (fun i => r.length - i) 0
    ⟨by simp [upd, arg], by simp [upd, arg], by simp [upd, arg], by omega, Kp.refl _ _, [], by simp [upd, B], ⟨by simp⟩⟩ ?_
  rintro i F W ⟨f0, f1, f6, hi, k1, o, f5, heq⟩
  have holen : o.length + (byL f (r.drop i)).length ≤ 1000001000000 := by
    have := congrArg List.length heq.out; rw [List.length_append] at this
    have h2 := byL_len f r
    have h3 : r.length * (f.length + 1) ≤ 1000000 * 1000001 := Nat.mul_le_mul hr (Nat.succ_le_succ hf)
    omega
  rcases Nat.lt_or_ge i r.length with hlt | hge
  case inr =>
    have c1 : decide ((i : Int) < (r.length : Int)) = false := decide_eq_false (by omega)
    have heq1 := heq.out
    rw [List.drop_of_length_le hge] at heq1
    simp only [byL, List.append_nil] at heq1
    subst heq1
    repeat (first | refine qS ?_ | refine qB ?_ | refine qT rfl ?_ | refine qF rfl ?_ | ((first | refine qR rfl ?_ | refine qK ?_ | refine qE ?_ | refine qW ?_ | refine qM ?_); try simp -dsimp (maxSteps := 2000000) (disch := first | omega | (simp only [qZ] <;> omega) | fail) only [push_cast, ↓qP, ↓reduceIte, Nat.reduceEqDiff, Nat.reduceAdd, Nat.reduceMul, Nat.reduceSub, Nat.reduceLeDiff, Int.reduceToNat, reduceCtorEq, f0, f1, f5, f6, c1]) | (refine qA ?_ ?_; (first | omega | (simp only [qL]; omega) | (simp only [qD] at *; omega))))
    exact Ret.mk ⟨rfl, k1⟩
  have c1 : decide ((i : Int) < (r.length : Int)) = true := decide_eq_true (by omega)
  have hix : ((i : Int) + 1).toNat = i + 1 := by omega
  by_cases hamp : byteAt r i = 38
  · have ha : (((byteAt r i).toNat : Int) == 38) = true := by rw [hamp]; rfl
    have e1 := byL_amp (f := f) hlt hamp
    have hf' : o.length + f.length ≤ 1000001000000 := by rw [e1, List.length_append] at holen; omega
    rcases Bool.eq_false_or_eq_true (decide ((i : Int) + 1 < (r.length : Int))) with c2 | c2
    all_goals
      repeat (first | refine qS ?_ | refine qB ?_ | refine qT rfl ?_ | refine qF rfl ?_ | ((first | refine qR rfl ?_ | refine qK ?_ | refine qE ?_ | refine qW ?_ | refine qM ?_); try simp -dsimp (maxSteps := 2000000) (disch := first | omega | (simp only [qZ] <;> omega) | fail) only [push_cast, ↓qP, ↓reduceIte, Nat.reduceEqDiff, Nat.reduceAdd, Nat.reduceMul, Nat.reduceSub, Nat.reduceLeDiff, Int.reduceToNat, reduceCtorEq, f0, f1, f5, f6, c1, c2, ha, hix]) | (refine qA ?_ ?_; (first | omega | (simp only [qL]; omega) | (simp only [qD] at *; omega))))
      exact Again.mk (i + 1) ⟨by simp [upd, f0], by simp [upd, f1], by simp [upd, f6], by omega, k1, _, by simp [upd]; rfl, ⟨by rw [← heq.out, e1, List.append_assoc]⟩⟩ (by omega)
  have ha : (((byteAt r i).toNat : Int) == 38) = false := by rw [show (((byteAt r i).toNat : Int) == 38) = (byteAt r i == 38) from u8_eq' _ 38]; simpa using hamp
  by_cases hesc : byteAt r i = 92 ∧ i + 1 < r.length ∧ (byteAt r (i + 1) = 38 ∨ byteAt r (i + 1) = 92)
  · obtain ⟨q1, q2, q3⟩ := hesc
    have e1 := byL_esc (f := f) q2 q1 q3
    have ho' : o.length + 1 ≤ 1000001000000 := by rw [e1, List.length_cons] at holen; omega
    have c2 : decide ((i : Int) + 1 < (r.length : Int)) = true := decide_eq_true (by omega)
    have h92 : (((byteAt r i).toNat : Int) == 92) = true := by rw [q1]; rfl
    have hlen1 : [byteAt r (i + 1)].length = 1 := rfl
    rcases q3 with q3 | q3
    · have n1 : (((byteAt r (i + 1)).toNat : Int) == 38) = true := by rw [q3]; rfl
      repeat (first | refine qS ?_ | refine qB ?_ | refine qT rfl ?_ | refine qF rfl ?_ | ((first | refine qR rfl ?_ | refine qK ?_ | refine qE ?_ | refine qW ?_ | refine qM ?_); try simp -dsimp (maxSteps := 2000000) (disch := first | omega | (simp only [qZ] <;> omega) | fail) only [push_cast, ↓qP, ↓reduceIte, Nat.reduceEqDiff, Nat.reduceAdd, Nat.reduceMul, Nat.reduceSub, Nat.reduceLeDiff, Int.reduceToNat, reduceCtorEq, f0, f1, f5, f6, c1, c2, ha, hix, h92, n1]) | (refine qA ?_ ?_; (first | omega | (simp only [qL]; omega) | (simp only [qD] at *; omega))))
      refine V_str 63 9 _ rfl se_63 ik_5 isStr_9 [byteAt r (i + 1)] rfl rfl (.inr ⟨_, _, rfl, fun j hj => ?_⟩) ?_
      · obtain rfl : j = 0 := by simp at hj; omega
        simp -dsimp (maxSteps := 2000000) (disch := first | omega | (simp only [qZ] <;> omega) | fail) only [push_cast, ↓qP, ↓reduceIte, Nat.reduceEqDiff, Nat.reduceAdd, Nat.reduceMul, Nat.reduceSub, Nat.reduceLeDiff, Int.reduceToNat, reduceCtorEq]
        rfl
      refine Sm.out ?_
      repeat (first | refine qS ?_ | refine qB ?_ | refine qT rfl ?_ | refine qF rfl ?_ | ((first | refine qR rfl ?_ | refine qK ?_ | refine qE ?_ | refine qW ?_ | refine qM ?_); try simp -dsimp (maxSteps := 2000000) (disch := first | omega | (simp only [qZ] <;> omega) | fail) only [push_cast, ↓qP, ↓reduceIte, Nat.reduceEqDiff, Nat.reduceAdd, Nat.reduceMul, Nat.reduceSub, Nat.reduceLeDiff, Int.reduceToNat, reduceCtorEq, f0, f1, f5, f6]) | (refine qA ?_ ?_; (first | omega | (simp only [qL]; omega) | (simp only [qD] at *; omega))))
      exact Again.mk (i + 2) ⟨by simp [upd, f0], by simp [upd, f1], by simp [upd, f6]; omega, by omega, k1.alloc _, _, by simp [upd]; rfl, ⟨by rw [← heq.out, e1, List.append_assoc]; rfl⟩⟩ (by omega)
    · have n1 : (((byteAt r (i + 1)).toNat : Int) == 38) = false := by rw [q3]; rfl
      have n2 : (((byteAt r (i + 1)).toNat : Int) == 92) = true := by rw [q3]; rfl
      repeat (first | refine qS ?_ | refine qB ?_ | refine qT rfl ?_ | refine qF rfl ?_ | ((first | refine qR rfl ?_ | refine qK ?_ | refine qE ?_ | refine qW ?_ | refine qM ?_); try simp -dsimp (maxSteps := 2000000) (disch := first | omega | (simp only [qZ] <;> omega) | fail) only [push_cast, ↓qP, ↓reduceIte, Nat.reduceEqDiff, Nat.reduceAdd, Nat.reduceMul, Nat.reduceSub, Nat.reduceLeDiff, Int.reduceToNat, reduceCtorEq, f0, f1, f5, f6, c1, c2, ha, hix, h92, n1, n2]) | (refine qA ?_ ?_; (first | omega | (simp only [qL]; omega) | (simp only [qD] at *; omega))))
      refine V_str 63 9 _ rfl se_63 ik_5 isStr_9 [byteAt r (i + 1)] rfl rfl (.inr ⟨_, _, rfl, fun j hj => ?_⟩) ?_
      · obtain rfl : j = 0 := by simp at hj; omega
        simp -dsimp (maxSteps := 2000000) (disch := first | omega | (simp only [qZ] <;> omega) | fail) only [push_cast, ↓qP, ↓reduceIte, Nat.reduceEqDiff, Nat.reduceAdd, Nat.reduceMul, Nat.reduceSub, Nat.reduceLeDiff, Int.reduceToNat, reduceCtorEq]
        rfl
      refine Sm.out ?_
      repeat (first | refine qS ?_ | refine qB ?_ | refine qT rfl ?_ | refine qF rfl ?_ | ((first | refine qR rfl ?_ | refine qK ?_ | refine qE ?_ | refine qW ?_ | refine qM ?_); try simp -dsimp (maxSteps := 2000000) (disch := first | omega | (simp only [qZ] <;> omega) | fail) only [push_cast, ↓qP, ↓reduceIte, Nat.reduceEqDiff, Nat.reduceAdd, Nat.reduceMul, Nat.reduceSub, Nat.reduceLeDiff, Int.reduceToNat, reduceCtorEq, f0, f1, f5, f6]) | (refine qA ?_ ?_; (first | omega | (simp only [qL]; omega) | (simp only [qD] at *; omega))))
      exact Again.mk (i + 2) ⟨by simp [upd, f0], by simp [upd, f1], by simp [upd, f6]; omega, by omega, k1.alloc _, _, by simp [upd]; rfl, ⟨by rw [← heq.out, e1, List.append_assoc]; rfl⟩⟩ (by omega)
  · have e1 := byL_one (f := f) hlt hamp hesc
    have ho' : o.length + 1 ≤ 1000001000000 := by rw [e1, List.length_cons] at holen; omega
    have hi1 : ((i : Int) + 1 - i).toNat = 1 := by omega
    have tk : (r.drop i).take (i + 1 - i) = [byteAt r i] := by rw [show i + 1 - i = 1 by omega, drop_cons hlt]; rfl
    by_cases q1 : byteAt r i = 92
    · have h92 : (((byteAt r i).toNat : Int) == 92) = true := by rw [q1]; rfl
      rcases Nat.lt_or_ge (i + 1) r.length with q2 | q2
      · have c2 : decide ((i : Int) + 1 < (r.length : Int)) = true := decide_eq_true (by omega)
        have n1 : (((byteAt r (i + 1)).toNat : Int) == 38) = false := by rw [show (((byteAt r (i + 1)).toNat : Int) == 38) = (byteAt r (i + 1) == 38) from u8_eq' _ 38]; simpa using fun h => hesc ⟨q1, q2, .inl h⟩
        have n2 : (((byteAt r (i + 1)).toNat : Int) == 92) = false := by rw [show (((byteAt r (i + 1)).toNat : Int) == 92) = (byteAt r (i + 1) == 92) from u8_eq' _ 92]; simpa using fun h => hesc ⟨q1, q2, .inr h⟩
        replace hesc : Hide _ := ⟨hesc⟩
        repeat (first | refine qS ?_ | refine qB ?_ | refine qT rfl ?_ | refine qF rfl ?_ | ((first | refine qR rfl ?_ | refine qK ?_ | refine qE ?_ | refine qW ?_ | refine qM ?_); try simp -dsimp (maxSteps := 2000000) (disch := first | omega | (simp only [qZ] <;> omega) | fail) only [push_cast, ↓qP, ↓reduceIte, Nat.reduceEqDiff, Nat.reduceAdd, Nat.reduceMul, Nat.reduceSub, Nat.reduceLeDiff, Int.reduceToNat, reduceCtorEq, f0, f1, f5, f6, c1, c2, ha, hix, h92, n1, n2, tk]) | (refine qA ?_ ?_; (first | omega | (simp only [qL]; omega) | (simp only [qD] at *; omega))))
        refine Again.mk (i + 1) ⟨by simp [upd, f0], by simp [upd, f1], by simp [upd, f6], by omega, k1, o ++ [byteAt r i], by simp [upd], ⟨by rw [← heq.out, e1, List.append_assoc]; rfl⟩⟩ (by omega)
      · have c2 : decide ((i : Int) + 1 < (r.length : Int)) = false := decide_eq_false (by omega)
        have z1 : ((0 : Int) == 38) = false := rfl
        have z2 : ((0 : Int) == 92) = false := rfl
        replace hesc : Hide _ := ⟨hesc⟩
        repeat (first | refine qS ?_ | refine qB ?_ | refine qT rfl ?_ | refine qF rfl ?_ | ((first | refine qR rfl ?_ | refine qK ?_ | refine qE ?_ | refine qW ?_ | refine qM ?_); try simp -dsimp (maxSteps := 2000000) (disch := first | omega | (simp only [qZ] <;> omega) | fail) only [push_cast, ↓qP, ↓reduceIte, Nat.reduceEqDiff, Nat.reduceAdd, Nat.reduceMul, Nat.reduceSub, Nat.reduceLeDiff, Int.reduceToNat, reduceCtorEq, f0, f1, f5, f6, c1, c2, ha, hix, h92, tk, z1, z2]) | (refine qA ?_ ?_; (first | omega | (simp only [qL]; omega) | (simp only [qD] at *; omega))))
        refine Again.mk (i + 1) ⟨by simp [upd, f0], by simp [upd, f1], by simp [upd, f6], by omega, k1, o ++ [byteAt r i], by simp [upd], ⟨by rw [← heq.out, e1, List.append_assoc]; rfl⟩⟩ (by omega)
    · have h92 : (((byteAt r i).toNat : Int) == 92) = false := by rw [show (((byteAt r i).toNat : Int) == 92) = (byteAt r i == 92) from u8_eq' _ 92]; simpa using q1
      replace hesc : Hide _ := ⟨hesc⟩
      rcases Bool.eq_false_or_eq_true (decide ((i : Int) + 1 < (r.length : Int))) with c2 | c2
      all_goals
        repeat (first | refine qS ?_ | refine qB ?_ | refine qT rfl ?_ | refine qF rfl ?_ | ((first | refine qR rfl ?_ | refine qK ?_ | refine qE ?_ | refine qW ?_ | refine qM ?_); try simp -dsimp (maxSteps := 2000000) (disch := first | omega | (simp only [qZ] <;> omega) | fail) only [push_cast, ↓qP, ↓reduceIte, Nat.reduceEqDiff, Nat.reduceAdd, Nat.reduceMul, Nat.reduceSub, Nat.reduceLeDiff, Int.reduceToNat, reduceCtorEq, f0, f1, f5, f6, c1, c2, ha, hix, h92, tk]) | (refine qA ?_ ?_; (first | omega | (simp only [qL]; omega) | (simp only [qD] at *; omega))))
        refine Again.mk (i + 1) ⟨by simp [upd, f0], by simp [upd, f1], by simp [upd, f6], by omega, k1, o ++ [byteAt r i], by simp [upd], ⟨by rw [← heq.out, e1, List.append_assoc]; rfl⟩⟩ (by omega)
end
end Go.Proofs.Ytddichibegppjaa

/- The reference's Parse. -/
namespace Go.Proofs.Ytddichibegppjaa
open Go Go.VC

theorem reads3 (l : List UInt8) (hl : l.length ≤ 1000000) (a : Nat) : ∀ k, CA l a k ∧ CP l a k ∧ CB l a k := by
  intro k
  induction k using Nat.strongRecOn with
  | _ k ih => exact ⟨atom3_any k hl fun j hj => (ih j hj).2.2, pieces3_any k hl fun j hj => (ih j hj).1, branches3_any k hl fun j hj => (ih j hj).2.1⟩

theorem post_cell_tmp {w : World} {a t b i n u : Nat} {vs : List Value} {F : Fr} {R : Ending → World → Prop} (hF : F a = .pointer (some ⟨b, i, none⟩)) (ht : tk Try.prog t = n + 2) (hr : VC.rdn w b i n = some vs) (h : R (.returned (.tuple #[.agg vs.toArray, F u])) w) : post Try.prog [.cell a t, .tmp u] R .mk .ret F w := by
  have : resVs Try.prog w F [.cell a t, .tmp u] = some (.tuple #[.agg vs.toArray, F u]) := by
    simp only [resVs, List.mapM_cons, List.mapM_nil, resV, hF, ht, hr, Option.map_some]
    rfl
  unfold post
  show (match resVs Try.prog w F [.cell a t, .tmp u] with | some v => Ret R v w | none => False)
  rw [this]
  exact Ret.mk h

/-- Where Parse stands. -/
structure Pr (w : World) (a q : Nat) (l : List UInt8) (s : S3) (e : Re) (cs : List Value) (W : World) : Prop where
  at_ : At3 W a l s
  rb : Blk W w.heap.size 33 zRe
  qb : Blk W q 33 cs
  re : IsRe W (fun b => w.heap.size < b ∧ b < W.heap.size ∧ b ≠ q ∧ b ≠ a) e cs
  kp : Kp (fun _ => False) w W
  ha : w.heap.size < a
  hq : a < q
section
variable {w W W2 : World} {a q : Nat} {l : List UInt8} {s s' : S3} {e : Re} {cs : List Value}
theorem Pr.keep (h : Pr w a q l s e cs W) (h2 : At3 W2 a l s') (hk : Kp (· = a) W W2) : Pr w a q l s' e cs W2 := by
  have h1 := h.ha
  have h3 := h.hq
  exact ⟨h2, hk.Blk h.rb (by omega), hk.Blk h.qb (by omega), h.re.Kp hk (fun b hb e => hb.2.2.2 e) (fun b hb => ⟨hb.1, Nat.lt_of_lt_of_le hb.2.1 hk.size, hb.2.2⟩), h.kp.trans' hk (fun i hi e => by omega), h1, h3⟩
theorem Pr.keep0 (h : Pr w a q l s e cs W) (hk : Kp (fun _ => False) W W2) : Pr w a q l s e cs W2 := h.keep (hk.Blk h.at_ id) (hk.mono fun _ _ h => h.elim)
theorem Pr.drew (h : Pr w a q l s e cs W) : Pr w a q l s e cs W.drew := h.keep0 (Kp.refl _ W).drew

/-- What Parse brings. -/
abbrev OutP (w : World) (l : List UInt8) (e : Ending) (W : World) : Prop :=
  ∃ cs, e = .returned (.tuple #[.agg cs.toArray, .int .i64 (parse3 l).2]) ∧ IsRe W (fun b => w.heap.size ≤ b ∧ b < W.heap.size) (parse3 l).1 cs ∧ Kp (fun _ => False) w W

theorem parse3_any (w : World) (l : List UInt8) (hl : l.length ≤ 1000000) : Calls Try.prog 20 #[.string (B l)] w (OutP w l) := by
  obtain ⟨⟨e, s0⟩, hr⟩ := start_some l
  have hp : parse3 l = if s0.f ≠ 0 then (Re.zero, s0.f) else if s0.i < l.length then (Re.zero, 1) else if size3 e > 2000 then (Re.zero, 5) else (e, 0) := by
    unfold parse3; rw [hr]
  have hok := (reads_ok l _).2.2.2.2 _ _ _ (St3_start l) hr
  have hwt := (reads_wt l _).2.2.2.2 _ _ _ (St3_start l) hr
  have hsi : s0.i ≤ l.length + 101 := by have := hok.1.2.1; simp at this; omega
  replace hp : Hide _ := ⟨hp⟩
  replace hok : Hide _ := ⟨hok⟩
  replace hwt : Hide _ := ⟨hwt⟩
  refine enter (n := 53) (args := [.string (B l)]) Try.func20 rfl rfl rfl (by simp) ?_
  repeat (first | refine qS ?_ | refine qB ?_ | refine qT rfl ?_ | refine qF rfl ?_ | ((first | refine qR rfl ?_ | refine qK ?_ | refine qE ?_ | refine qW ?_ | refine qM ?_); try simp -dsimp (maxSteps := 2000000) (disch := first | omega | (simp only [qZ] <;> omega) | fail) only [push_cast, ↓qP, ↓reduceIte, Nat.reduceEqDiff, Nat.reduceAdd, Nat.reduceMul, Nat.reduceSub, Nat.reduceLeDiff, Int.reduceToNat, reduceCtorEq]) | (refine qA ?_ ?_; (first | omega | (simp only [qL]; omega) | (simp only [qD] at *; omega))))
  have hA : At3 ((w.alloc (.cells zRe.toArray 33)).alloc (.cells #[.string (B l), .int .i64 0, .int .i64 0, .int .i64 0] 82)) (w.heap.size + 1) l ⟨0, 0, 0⟩ := by
    have := Blk.new (w.alloc (.cells zRe.toArray 33)) 82 [.string (B l), .int .i64 0, .int .i64 0, .int .i64 0]
    rw [World.size_alloc] at this
    exact this
  refine CallV.gen (A := fun W => At3 W (w.heap.size + 1) l ⟨0, 0, 0⟩ ∧ Blk W w.heap.size 33 zRe ∧ Kp (fun _ => False) w W) ⟨hA, (Blk.new _ _ _).alloc _, ((Kp.refl _ w).alloc _).alloc _⟩ ?_
  clear hA
  rintro w1 ⟨hA, hB, k1⟩
  refine CallV.of isCall_49 ((reads3 l hl (w.heap.size + 1) (4 * l.length + 3)).2.2 _ w1 hA (St3_start l) ⟨_, hr⟩) ?_
  rintro _ w2 ⟨t', s1', cs, he, rfl, hre, hA2, k2⟩
  rw [hr] at he
  injection he with he
  injection he with he1 he2
  subst he1; subst he2
  clear hr
  obtain ⟨o, se, A1, c1, c2, lo1, hi1', rfl⟩ := hre.form
  have hB2 := k2.Blk hB (by omega)
  have hA1l := hA.lt
  have hB1l := hB.lt
  have hA2l := hA2.lt
  have k3 : Kp (fun _ => False) w w2 := k1.trans' k2 (fun i hi e => by omega)
  refine Sm.out ?_
  repeat (first | ((fail_if_success (first | refine qY (n := 3) ?_ | refine qV (n := 3) ?_)); refine qS ?_) | refine qB ?_ | refine qT rfl ?_ | refine qF rfl ?_ | ((first | refine qR rfl ?_ | refine qK ?_ | refine qE ?_ | refine qW ?_ | refine qM ?_); try simp -dsimp (maxSteps := 2000000) (disch := first | omega | (simp only [qZ] <;> omega) | fail) only [push_cast, ↓qP, ↓reduceIte, Nat.reduceEqDiff, Nat.reduceAdd, Nat.reduceMul, Nat.reduceSub, Nat.reduceLeDiff, Int.reduceToNat, reduceCtorEq]) | (refine qA ?_ ?_; (first | omega | (simp only [qL]; omega) | (simp only [qD] at *; omega))))
  obtain ⟨q, hq⟩ : ∃ q, q = w2.heap.size := ⟨_, rfl⟩
  rw [← hq]
  obtain ⟨a, ha⟩ : ∃ a, a = w.heap.size + 1 := ⟨_, rfl⟩
  rw [← ha] at hA hA2 k2 hA1l hA2l ⊢
  refine Wp.gen (w := (w2.alloc (.cells zRe.toArray 33)).setCells q 0 [.string (B o), .string (B se), .slice A1 c1 c2, .int .i64 lo1, .int .i64 hi1']) (A := Pr w a q l s0 e [.string (B o), .string (B se), .slice A1 c1 c2, .int .i64 lo1, .int .i64 hi1']) ?_ ?_
  · have hk : Kp (· = q) w2 ((w2.alloc (.cells zRe.toArray 33)).setCells q 0 [.string (B o), .string (B se), .slice A1 c1 c2, .int .i64 lo1, .int .i64 hi1']) := ((Kp.refl (· = q) w2).alloc _).setCells (fun _ => rfl) [.string (B o), .string (B se), .slice A1 c1 c2, .int .i64 lo1, .int .i64 hi1'] 0
    have hk1 := k1.size
    have hk2 := k2.size
    exact ⟨Blk.farCells (by omega) _ _ _ (hA2.alloc _), Blk.farCells (by omega) _ _ _ (hB2.alloc _), Blk.setAll (cs := zRe) (by rw [hq]; exact Blk.new w2 33 zRe) rfl,
      hre.Kp hk (fun b hb e => by have := hb.2; omega) (fun b hb => ⟨by have := hb.1; omega, Nat.lt_of_lt_of_le hb.2 hk.size, by have := hb.2; omega, by have := hb.1; omega⟩), k3.trans' hk (fun i hi e => by omega), by omega, by omega⟩
  clear k3 k2 k1 hB2 hA1l hB1l hA2l hA hB hA2 hre hq
  intro w3 h3
  have hltr := h3.rb.lt
  obtain ⟨s1, hs1⟩ : ∃ s1 : S3, s1 = if s0.f == 0 && decide ((s0.i : Int) < (l.length : Int)) then s0.fail 1 else s0 := ⟨_, rfl⟩
  refine Wp.cut (fun F W => F 2 = .pointer (some ⟨w.heap.size, 0, none⟩) ∧ F 3 = .int .i64 0 ∧ F 4 = .pointer (some ⟨a, 0, none⟩) ∧ F 5 = .pointer (some ⟨q, 0, none⟩) ∧ Pr w a q l s1 e [.string (B o), .string (B se), .slice A1 c1 c2, .int .i64 lo1, .int .i64 hi1'] W) ?_ ?_
  · have hlta := h3.at_.lt
    rcases Bool.eq_false_or_eq_true (s0.f == 0) with g1 | g1
    · rcases Bool.eq_false_or_eq_true (decide ((s0.i : Int) < (l.length : Int))) with g2 | g2
      · rw [g1, g2] at hs1
        simp only [Bool.and_self, if_true] at hs1
        refine Wp.seq (Wp.draw [0, 1, 3, 7, 15, 31, 63, 127, 255, 511, 63, 1087, 3135, 7231, 15423, 32767, 65535] [] (.op 0 false false [] <| .op 1 false false [] <| .op 2 false false [] <| .op 3 false false [] <| .op 4 false false [] <| .op 5 false false [] <| .op 6 false false [] <| .op 7 false false [] <| .op 8 false false [] <| .op 9 false false [] <| .op 10 false false [] <| .op 11 false false [] <| .op 12 false false [] <| .op 13 false false [] <| .op 14 false false [] <| .op 15 false false [] <| .op 16 false false [] <| .nil) mixed (by kernel_rfl) ?_)
        simp -dsimp (maxSteps := 2000000) (disch := first | omega | (simp only [qZ] <;> omega) | fail) only [push_cast, ↓qP, ↓reduceIte, Nat.reduceEqDiff, Nat.reduceAdd, Nat.reduceMul, Nat.reduceSub, Nat.reduceLeDiff, Int.reduceToNat, reduceCtorEq, h3.at_.rdc, g1, g2]
        refine Sm.out ?_
        repeat (first | refine qS ?_ | refine qB ?_ | refine qT rfl ?_ | refine qF rfl ?_ | ((first | refine qR rfl ?_ | refine qK ?_ | refine qE ?_ | refine qW ?_ | refine qM ?_); try simp -dsimp (maxSteps := 2000000) (disch := first | omega | (simp only [qZ] <;> omega) | fail) only [push_cast, ↓qP, ↓reduceIte, Nat.reduceEqDiff, Nat.reduceAdd, Nat.reduceMul, Nat.reduceSub, Nat.reduceLeDiff, Int.reduceToNat, reduceCtorEq, g1, g2]) | (refine qA ?_ ?_; (first | omega | (simp only [qL]; omega) | (simp only [qD] at *; omega))))
        refine CallV.of isCall_50 (fail3 h3.at_.drew 1) ?_
        rintro _ w7 ⟨rfl, h7, k7⟩
        refine Sm.out ?_
        repeat (first | refine qS ?_ | refine qB ?_ | refine qT rfl ?_ | refine qF rfl ?_ | ((first | refine qR rfl ?_ | refine qK ?_ | refine qE ?_ | refine qW ?_ | refine qM ?_); try simp -dsimp (maxSteps := 2000000) (disch := first | omega | (simp only [qZ] <;> omega) | fail) only [push_cast, ↓qP, ↓reduceIte, Nat.reduceEqDiff, Nat.reduceAdd, Nat.reduceMul, Nat.reduceSub, Nat.reduceLeDiff, Int.reduceToNat, reduceCtorEq]) | (refine qA ?_ ?_; (first | omega | (simp only [qL]; omega) | (simp only [qD] at *; omega))))
        exact Mid.mk ⟨by simp [upd, ha], by simp [upd], by simp [upd, ha], by simp [upd], hs1 ▸ h3.drew.keep h7 k7⟩
      · rw [g1, g2] at hs1
        simp only [Bool.and_false, Bool.false_eq_true, if_false] at hs1
        refine Wp.seq (Wp.draw [0, 1, 3, 7, 15, 31, 63, 127, 255, 511, 63, 1087, 3135, 7231, 15423, 32767, 65535] [] (.op 0 false false [] <| .op 1 false false [] <| .op 2 false false [] <| .op 3 false false [] <| .op 4 false false [] <| .op 5 false false [] <| .op 6 false false [] <| .op 7 false false [] <| .op 8 false false [] <| .op 9 false false [] <| .op 10 false false [] <| .op 11 false false [] <| .op 12 false false [] <| .op 13 false false [] <| .op 14 false false [] <| .op 15 false false [] <| .op 16 false false [] <| .nil) mixed (by kernel_rfl) ?_)
        simp -dsimp (maxSteps := 2000000) (disch := first | omega | (simp only [qZ] <;> omega) | fail) only [push_cast, ↓qP, ↓reduceIte, Nat.reduceEqDiff, Nat.reduceAdd, Nat.reduceMul, Nat.reduceSub, Nat.reduceLeDiff, Int.reduceToNat, reduceCtorEq, h3.at_.rdc, g1, g2]
        refine Sm.out ?_
        repeat (first | refine qS ?_ | refine qB ?_ | refine qT rfl ?_ | refine qF rfl ?_ | ((first | refine qR rfl ?_ | refine qK ?_ | refine qE ?_ | refine qW ?_ | refine qM ?_); try simp -dsimp (maxSteps := 2000000) (disch := first | omega | (simp only [qZ] <;> omega) | fail) only [push_cast, ↓qP, ↓reduceIte, Nat.reduceEqDiff, Nat.reduceAdd, Nat.reduceMul, Nat.reduceSub, Nat.reduceLeDiff, Int.reduceToNat, reduceCtorEq, g1, g2]) | (refine qA ?_ ?_; (first | omega | (simp only [qL]; omega) | (simp only [qD] at *; omega))))
        exact Mid.mk ⟨by simp [upd, ha], by simp [upd], by simp [upd, ha], by simp [upd], hs1 ▸ h3.drew⟩
    · rw [g1] at hs1
      simp only [Bool.false_and, Bool.false_eq_true, if_false] at hs1
      refine Wp.seq (Wp.draw [0, 1, 3, 7, 15, 31, 63, 127, 255, 511, 63, 1087, 3135, 7231, 15423, 32767, 65535] [] (.op 0 false false [] <| .op 1 false false [] <| .op 2 false false [] <| .op 3 false false [] <| .op 4 false false [] <| .op 5 false false [] <| .op 6 false false [] <| .op 7 false false [] <| .op 8 false false [] <| .op 9 false false [] <| .op 10 false false [] <| .op 11 false false [] <| .op 12 false false [] <| .op 13 false false [] <| .op 14 false false [] <| .op 15 false false [] <| .op 16 false false [] <| .nil) mixed (by kernel_rfl) ?_)
      simp -dsimp (maxSteps := 2000000) (disch := first | omega | (simp only [qZ] <;> omega) | fail) only [push_cast, ↓qP, ↓reduceIte, Nat.reduceEqDiff, Nat.reduceAdd, Nat.reduceMul, Nat.reduceSub, Nat.reduceLeDiff, Int.reduceToNat, reduceCtorEq, h3.at_.rdc, g1]
      refine Sm.out ?_
      repeat (first | refine qS ?_ | refine qB ?_ | refine qT rfl ?_ | refine qF rfl ?_ | ((first | refine qR rfl ?_ | refine qK ?_ | refine qE ?_ | refine qW ?_ | refine qM ?_); try simp -dsimp (maxSteps := 2000000) (disch := first | omega | (simp only [qZ] <;> omega) | fail) only [push_cast, ↓qP, ↓reduceIte, Nat.reduceEqDiff, Nat.reduceAdd, Nat.reduceMul, Nat.reduceSub, Nat.reduceLeDiff, Int.reduceToNat, reduceCtorEq, g1]) | (refine qA ?_ ?_; (first | omega | (simp only [qL]; omega) | (simp only [qD] at *; omega))))
      exact Mid.mk ⟨by simp [upd, ha], by simp [upd], by simp [upd, ha], by simp [upd], hs1 ▸ h3.drew⟩
  clear h3 hltr
  rintro F w4 ⟨f2, f3, f4, f5, h4⟩
  have hltr := h4.rb.lt
  have hltq := h4.qb.lt
  obtain ⟨s2, hs2⟩ : ∃ s2 : S3, s2 = if s1.f == 0 && decide (size3 e > 2000) then s1.fail 5 else s1 := ⟨_, rfl⟩
  refine Wp.cut (fun F W => F 2 = .pointer (some ⟨w.heap.size, 0, none⟩) ∧ F 3 = .int .i64 0 ∧ F 4 = .pointer (some ⟨a, 0, none⟩) ∧ F 5 = .pointer (some ⟨q, 0, none⟩) ∧ Pr w a q l s2 e [.string (B o), .string (B se), .slice A1 c1 c2, .int .i64 lo1, .int .i64 hi1'] W) ?_ ?_
  · have hlta := h4.at_.lt
    rcases Bool.eq_false_or_eq_true (s1.f == 0) with g1 | g1
    · have hs0 : s0.f = 0 := by
        have g1' : s1.f = 0 := by simpa using g1
        rw [hs1] at g1'
        split at g1'
        · exact absurd g1' (fail_f _ (by decide))
        · exact g1'
      have hgood := hok.out.2 hs0
      have hw := hwt.out hs0
      have hi0 := (hok.out.1.2.2 hs0).2.2
      change wt e + 3 * 0 ≤ _ at hw
      repeat (first | refine qS ?_ | refine qB ?_ | refine qT rfl ?_ | refine qF rfl ?_ | ((first | refine qR rfl ?_ | refine qK ?_ | refine qE ?_ | refine qW ?_ | refine qM ?_); try simp -dsimp (maxSteps := 2000000) (disch := first | omega | (simp only [qZ] <;> omega) | fail) only [push_cast, ↓qP, ↓reduceIte, Nat.reduceEqDiff, Nat.reduceAdd, Nat.reduceMul, Nat.reduceSub, Nat.reduceLeDiff, Int.reduceToNat, reduceCtorEq, f2, f3, f4, f5, h4.at_.rdc, g1, h4.qb.rdc]) | (refine qA ?_ ?_; (first | omega | (simp only [qL]; omega) | (simp only [qD] at *; omega))))
      refine CallV.of isCall_51 (size3_any e hgood (by omega) w4 _ h4.re) ?_
      rintro _ w5 ⟨rfl, k5⟩
      have h5 := h4.keep0 k5
      rcases Bool.eq_false_or_eq_true (decide (size3 e > 2000)) with g2 | g2
      · rw [g1, g2] at hs2
        simp only [Bool.and_self, if_true] at hs2
        refine Sm.out ?_
        repeat (first | refine qS ?_ | refine qB ?_ | refine qT rfl ?_ | refine qF rfl ?_ | ((first | refine qR rfl ?_ | refine qK ?_ | refine qE ?_ | refine qW ?_ | refine qM ?_); try simp -dsimp (maxSteps := 2000000) (disch := first | omega | (simp only [qZ] <;> omega) | fail) only [push_cast, ↓qP, ↓reduceIte, Nat.reduceEqDiff, Nat.reduceAdd, Nat.reduceMul, Nat.reduceSub, Nat.reduceLeDiff, Int.reduceToNat, reduceCtorEq, f2, f3, f4, f5, g2]) | (refine qA ?_ ?_; (first | omega | (simp only [qL]; omega) | (simp only [qD] at *; omega))))
        refine CallV.of isCall_50 (fail3 h5.at_ 5) ?_
        rintro _ w7 ⟨rfl, h7, k7⟩
        refine Sm.out ?_
        repeat (first | refine qS ?_ | refine qB ?_ | refine qT rfl ?_ | refine qF rfl ?_ | ((first | refine qR rfl ?_ | refine qK ?_ | refine qE ?_ | refine qW ?_ | refine qM ?_); try simp -dsimp (maxSteps := 2000000) (disch := first | omega | (simp only [qZ] <;> omega) | fail) only [push_cast, ↓qP, ↓reduceIte, Nat.reduceEqDiff, Nat.reduceAdd, Nat.reduceMul, Nat.reduceSub, Nat.reduceLeDiff, Int.reduceToNat, reduceCtorEq]) | (refine qA ?_ ?_; (first | omega | (simp only [qL]; omega) | (simp only [qD] at *; omega))))
        exact Mid.mk ⟨by simp [upd, f2], by simp [upd, f3], by simp [upd, f4], by simp [upd, f5], hs2 ▸ h5.keep h7 k7⟩
      · rw [g1, g2] at hs2
        simp only [Bool.and_false, Bool.false_eq_true, if_false] at hs2
        refine Sm.out ?_
        repeat (first | refine qS ?_ | refine qB ?_ | refine qT rfl ?_ | refine qF rfl ?_ | ((first | refine qR rfl ?_ | refine qK ?_ | refine qE ?_ | refine qW ?_ | refine qM ?_); try simp -dsimp (maxSteps := 2000000) (disch := first | omega | (simp only [qZ] <;> omega) | fail) only [push_cast, ↓qP, ↓reduceIte, Nat.reduceEqDiff, Nat.reduceAdd, Nat.reduceMul, Nat.reduceSub, Nat.reduceLeDiff, Int.reduceToNat, reduceCtorEq, f2, f3, f4, f5, g2]) | (refine qA ?_ ?_; (first | omega | (simp only [qL]; omega) | (simp only [qD] at *; omega))))
        exact Mid.mk ⟨by simp [upd, f2], by simp [upd, f3], by simp [upd, f4], by simp [upd, f5], hs2 ▸ h5⟩
    · rw [g1] at hs2
      simp only [Bool.false_and, Bool.false_eq_true, if_false] at hs2
      repeat (first | refine qS ?_ | refine qB ?_ | refine qT rfl ?_ | refine qF rfl ?_ | ((first | refine qR rfl ?_ | refine qK ?_ | refine qE ?_ | refine qW ?_ | refine qM ?_); try simp -dsimp (maxSteps := 2000000) (disch := first | omega | (simp only [qZ] <;> omega) | fail) only [push_cast, ↓qP, ↓reduceIte, Nat.reduceEqDiff, Nat.reduceAdd, Nat.reduceMul, Nat.reduceSub, Nat.reduceLeDiff, Int.reduceToNat, reduceCtorEq, f2, f3, f4, f5, h4.at_.rdc, g1]) | (refine qA ?_ ?_; (first | omega | (simp only [qL]; omega) | (simp only [qD] at *; omega))))
      exact Mid.mk ⟨by simp [upd, f2], by simp [upd, f3], by simp [upd, f4], by simp [upd, f5], hs2 ▸ h4⟩
  clear h4 hltr hltq f2 f3 f4 f5
  rintro F w5 ⟨f2, f3, f4, f5, h5⟩
  have hltr := h5.rb.lt
  have hltq := h5.qb.lt
  have hlta := h5.at_.lt
  have hrr := h5.rb.rdc
  have hrz := h5.rb.fz
  have hpp : parse3 l = if s2.f ≠ 0 then (Re.zero, s2.f) else (e, 0) := by
    have hp' := hp.out
    by_cases c1 : s0.f = 0
    · rw [if_neg (by simpa using c1)] at hp'
      by_cases c2 : s0.i < l.length
      · rw [if_pos c2] at hp'
        have : s1 = s0.fail 1 := by rw [hs1]; simp [c1, c2]
        have e1 : s1.f = 1 := by rw [this]; simp [S3.fail, c1]
        have : s2 = s1 := by rw [hs2]; simp [e1]
        rw [hp', this, e1]; rfl
      · rw [if_neg c2] at hp'
        have e0 : s1 = s0 := by rw [hs1]; simp [c2]
        by_cases c3 : size3 e > 2000
        · rw [if_pos c3] at hp'
          have : s2 = s0.fail 5 := by rw [hs2, e0]; simp [c1, c3]
          have e1 : s2.f = 5 := by rw [this]; simp [S3.fail, c1]
          rw [hp', e1]; rfl
        · rw [if_neg c3] at hp'
          have : s2 = s0 := by rw [hs2, e0]; simp [c3]
          rw [hp', this, if_neg (by simpa using c1)]
    · rw [if_pos c1] at hp'
      have e0 : s1 = s0 := by rw [hs1]; simp [c1]
      have : s2 = s0 := by rw [hs2, e0]; simp [c1]
      rw [hp', this, if_pos c1]
  unfold OutP
  rw [hpp]
  clear hpp hp hok hwt hs1 hs2 hsi
  have hha := h5.ha
  have kend : ∀ cs : List Value, Kp (fun _ => False) w (w5.setCells w.heap.size 0 cs) := fun cs => Kp.setCells h5.kp (fun h => absurd h (Nat.lt_irrefl _)) cs 0
  rcases Bool.eq_false_or_eq_true (s2.f != 0) with g1 | g1
  · rw [if_pos (by simpa using g1)]
    refine Sm.out ?_
    repeat (first | ((fail_if_success (first | refine qY (n := 8) ?_ | refine qV (n := 8) ?_)); refine qS ?_) | refine qB ?_ | refine qT rfl ?_ | refine qF rfl ?_ | ((first | refine qR rfl ?_ | refine qK ?_ | refine qE ?_ | refine qW ?_ | refine qM ?_); try simp -dsimp (maxSteps := 2000000) (disch := first | omega | (simp only [qZ] <;> omega) | fail) only [push_cast, ↓qP, ↓reduceIte, Nat.reduceEqDiff, Nat.reduceAdd, Nat.reduceMul, Nat.reduceSub, Nat.reduceLeDiff, Int.reduceToNat, reduceCtorEq, f2, f3, f4, f5, h5.at_.rdc, g1]) | (refine qA ?_ ?_; (first | omega | (simp only [qL]; omega) | (simp only [qD] at *; omega))))
    have h6 := h5.drew
    have hrr6 := h6.rb.rdc
    have hrz6 := h6.rb.fz
    refine Wp.seq (Wp.draw [0, 0, 2, 6, 14, 1, 63] [5] (.op 0 false false [] <| .op 1 false false [] <| .op 2 false false [] <| .op 3 false false [] <| .op 4 false true [] <| .op 5 true false [] <| .op 6 false false [] <| .nil) mixed (by kernel_rfl) ?_)
    simp -dsimp (maxSteps := 2000000) (disch := first | omega | (simp only [qZ] <;> omega) | fail) only [push_cast, ↓qP, ↓reduceIte, Nat.reduceEqDiff, Nat.reduceAdd, Nat.reduceMul, Nat.reduceSub, Nat.reduceLeDiff, Int.reduceToNat, reduceCtorEq, h5.at_.rdc, f2, f4, hrr, hrz]
    refine Sm.out ?_
    repeat (first | refine qS ?_ | refine qB ?_ | refine qT rfl ?_ | refine qF rfl ?_ | ((first | refine qR rfl ?_ | refine qK ?_ | refine qE ?_ | refine qW ?_ | refine qM ?_); try simp -dsimp (maxSteps := 2000000) (disch := first | omega | (simp only [qZ] <;> omega) | fail) only [push_cast, ↓qP, ↓reduceIte, Nat.reduceEqDiff, Nat.reduceAdd, Nat.reduceMul, Nat.reduceSub, Nat.reduceLeDiff, Int.reduceToNat, reduceCtorEq, f2, f4, h5.at_.rdc, hrr, hrz]) | (refine qA ?_ ?_; (first | omega | (simp only [qL]; omega) | (simp only [qD] at *; omega))))
    have h2 := (h6.rb.setAll (vs := zRe) rfl).rdn
    refine post_cell_tmp (vs := zRe) (by simp [upd, f2]) tk_33 h2 ?_
    exact ⟨zRe, by simp [upd], zRe_is _ _, Kp.setCells h6.kp (fun h => absurd h (Nat.lt_irrefl _)) zRe 0⟩
  · rw [if_neg (by simpa using g1)]
    repeat (first | refine qS ?_ | refine qB ?_ | refine qT rfl ?_ | refine qF rfl ?_ | ((first | refine qR rfl ?_ | refine qK ?_ | refine qE ?_ | refine qW ?_ | refine qM ?_); try simp -dsimp (maxSteps := 2000000) (disch := first | omega | (simp only [qZ] <;> omega) | fail) only [push_cast, ↓qP, ↓reduceIte, Nat.reduceEqDiff, Nat.reduceAdd, Nat.reduceMul, Nat.reduceSub, Nat.reduceLeDiff, Int.reduceToNat, reduceCtorEq, f2, f3, f4, f5, h5.at_.rdc, g1, h5.qb.rdc, hrr, hrz]) | (refine qA ?_ ?_; (first | omega | (simp only [qL]; omega) | (simp only [qD] at *; omega))))
    have h2 := (h5.rb.setAll (vs := [.string (B o), .string (B se), .slice A1 c1 c2, .int .i64 lo1, .int .i64 hi1']) rfl).rdn
    refine post_cell_tmp (by simp [upd, f2]) tk_33 h2 ?_
    have hk : Kp (· = w.heap.size) w5 (w5.setCells w.heap.size 0 [.string (B o), .string (B se), .slice A1 c1 c2, .int .i64 lo1, .int .i64 hi1']) := (Kp.refl (· = w.heap.size) w5).setCells (fun _ => rfl) [.string (B o), .string (B se), .slice A1 c1 c2, .int .i64 lo1, .int .i64 hi1'] 0
    exact ⟨[.string (B o), .string (B se), .slice A1 c1 c2, .int .i64 lo1, .int .i64 hi1'], by simp [upd], h5.re.Kp hk (fun b hb e => by have := hb.1; omega) (fun b hb => ⟨by have := hb.1; omega, Nat.lt_of_lt_of_le hb.2.1 hk.size⟩), kend [.string (B o), .string (B se), .slice A1 c1 c2, .int .i64 lo1, .int .i64 hi1']⟩
end
end Go.Proofs.Ytddichibegppjaa

/- The reference's matcher: has, both, same. -/
namespace Go.Proofs.Ytddichibegppjaa
open Go Go.VC

/-- Bools that may be read. -/
def Bs (w : World) (b : Nat) (fr : List Bool) : Prop := b < w.heap.size ∧ ∀ j, j < fr.length → rdc w b j = some (.bool (fr.getD j false))
theorem Bs.Kp {w w' : World} {b : Nat} {fr : List Bool} (h : Bs w b fr) (hk : VC.Kp (fun _ => False) w w') : Bs w' b fr := ⟨Nat.lt_of_lt_of_le h.1 hk.size, fun j hj => by rw [hk.rdc h.1 id]; exact h.2 j hj⟩
theorem blk_bs {w : World} {b : Nat} {fr : List Bool} (h : Blk w b 4 (bools fr)) : Bs w b fr := ⟨h.lt, fun j hj => by rw [h.rdc]; exact bools_get fr j hj⟩
theorem bools_len (fr : List Bool) : (bools fr).length = fr.length := by simp [bools]

theorem has_any (set : List UInt8) (c : UInt8) (w : World) (hl : set.length ≤ 1000000000) : Calls Try.prog 77 #[.string (B set), by8 c] w fun e w' => e = .returned (.bool (set.contains c)) ∧ w = w' := by
  unfold by8
  refine enter (n := 17) (args := [.string (B set), .int .u8 (c.toNat : Int)]) Try.func77 rfl rfl rfl (by simp) ?_
  repeat (first | refine qS ?_ | refine qB ?_ | refine qT rfl ?_ | refine qF rfl ?_ | ((first | refine qR rfl ?_ | refine qK ?_ | refine qE ?_ | refine qW ?_ | refine qM ?_); try simp -dsimp (maxSteps := 2000000) (disch := first | omega | (simp only [qZ] <;> omega) | fail) only [push_cast, ↓qP, ↓reduceIte, Nat.reduceEqDiff, Nat.reduceAdd, Nat.reduceMul, Nat.reduceSub, Nat.reduceLeDiff, Int.reduceToNat, reduceCtorEq]) | (refine qA ?_ ?_; (first | omega | (simp only [qL]; omega) | (simp only [qD] at *; omega))))
  refine Wp.loop (α := Nat) (fun j F W => j ≤ set.length ∧ F 0 = .string (B set) ∧ F 1 = .int .u8 (c.toNat : Int) ∧ F 5 = .int .i64 j ∧ w = W ∧ Hide (∀ i, i < j → byteAt set i ≠ c)) (fun j => set.length - j) 0
    ⟨Nat.zero_le _, by simp [upd, arg], by simp [upd, arg], by simp [upd], rfl, ⟨fun i hi => by omega⟩⟩ ?_
  rintro j F _ ⟨hj, f0, f1, f5, rfl, hno⟩
  rcases Nat.lt_or_ge j set.length with hlt | hge
  · have c1 : decide ((j : Int) < (set.length : Int)) = true := decide_eq_true (by omega)
    have e1 : (((byteAt set j).toNat : Int) == (c.toNat : Int)) = (byteAt set j == c) := u8_eq' _ _
    rcases Bool.eq_false_or_eq_true (byteAt set j == c) with c2 | c2
    · repeat (first | refine qS ?_ | refine qB ?_ | refine qT rfl ?_ | refine qF rfl ?_ | ((first | refine qR rfl ?_ | refine qK ?_ | refine qE ?_ | refine qW ?_ | refine qM ?_); try simp -dsimp (maxSteps := 2000000) (disch := first | omega | (simp only [qZ] <;> omega) | fail) only [push_cast, ↓qP, ↓reduceIte, Nat.reduceEqDiff, Nat.reduceAdd, Nat.reduceMul, Nat.reduceSub, Nat.reduceLeDiff, Int.reduceToNat, reduceCtorEq, f0, f1, f5, c1, e1, c2]) | (refine qA ?_ ?_; (first | omega | (simp only [qL]; omega) | (simp only [qD] at *; omega))))
      refine Ret.mk ⟨?_, rfl⟩
      congr 2
      have : byteAt set j = c := by simpa using c2
      rw [← this]
      symm
      rw [List.contains_iff_mem]
      simp only [byteAt, List.getD_eq_getElem?_getD, List.getElem?_eq_getElem hlt, Option.getD_some]
      exact List.getElem_mem hlt
    · repeat (first | refine qS ?_ | refine qB ?_ | refine qT rfl ?_ | refine qF rfl ?_ | ((first | refine qR rfl ?_ | refine qK ?_ | refine qE ?_ | refine qW ?_ | refine qM ?_); try simp -dsimp (maxSteps := 2000000) (disch := first | omega | (simp only [qZ] <;> omega) | fail) only [push_cast, ↓qP, ↓reduceIte, Nat.reduceEqDiff, Nat.reduceAdd, Nat.reduceMul, Nat.reduceSub, Nat.reduceLeDiff, Int.reduceToNat, reduceCtorEq, f0, f1, f5, c1, e1, c2]) | (refine qA ?_ ?_; (first | omega | (simp only [qL]; omega) | (simp only [qD] at *; omega))))
      refine Again.mk (j + 1) ⟨by omega, by simp [upd, f0], by simp [upd, f1], by simp [upd], rfl, ⟨fun i hi => ?_⟩⟩ (by omega)
      rcases Nat.lt_or_ge i j with h | h
      · exact hno.out i h
      · obtain rfl : i = j := by omega
        simpa using c2
  · have c1 : decide ((j : Int) < (set.length : Int)) = false := decide_eq_false (by omega)
    repeat (first | refine qS ?_ | refine qB ?_ | refine qT rfl ?_ | refine qF rfl ?_ | ((first | refine qR rfl ?_ | refine qK ?_ | refine qE ?_ | refine qW ?_ | refine qM ?_); try simp -dsimp (maxSteps := 2000000) (disch := first | omega | (simp only [qZ] <;> omega) | fail) only [push_cast, ↓qP, ↓reduceIte, Nat.reduceEqDiff, Nat.reduceAdd, Nat.reduceMul, Nat.reduceSub, Nat.reduceLeDiff, Int.reduceToNat, reduceCtorEq, f0, f1, f5, c1]) | (refine qA ?_ ?_; (first | omega | (simp only [qL]; omega) | (simp only [qD] at *; omega))))
    refine Ret.mk ⟨?_, rfl⟩
    congr 2
    symm
    rw [← Bool.not_eq_true, List.contains_iff_mem]
    intro hm
    obtain ⟨i, hi, e⟩ := List.getElem_of_mem hm
    have := hno.out i (by omega)
    simp only [byteAt, List.getD_eq_getElem?_getD, List.getElem?_eq_getElem hi, Option.getD_some] at this
    exact this e

section
variable {w : World} {a b : Nat} {x y : List Bool} {c d : Nat}

theorem orB_get (x y : List Bool) (h : x.length = y.length) (j : Nat) : (orB x y).getD j false = (x.getD j false || y.getD j false) := by
  simp only [orB, List.getD_eq_getElem?_getD, List.getElem?_zipWith]
  rcases Nat.lt_or_ge j x.length with h1 | h1
  · rw [List.getElem?_eq_getElem h1, List.getElem?_eq_getElem (h ▸ h1)]; simp
  · rw [List.getElem?_eq_none h1, List.getElem?_eq_none (h ▸ h1)]; simp
theorem list_ext_getD {x y : List Bool} (hl : x.length = y.length) (h : ∀ j, j < x.length → x.getD j false = y.getD j false) : x = y := by
  refine List.ext_getElem hl fun j h1 h2 => ?_
  have := h j h1
  simpa [List.getD_eq_getElem?_getD, List.getElem?_eq_getElem h1, List.getElem?_eq_getElem h2] using this

/-- Those below a place, the others none. -/
def upto (x : List Bool) (k : Nat) : List Bool := x.zipIdx.map fun (b, j) => decide (j < k) && b
theorem upto_len (x : List Bool) (k : Nat) : (upto x k).length = x.length := by simp [upto]
theorem upto_get (x : List Bool) (k j : Nat) : (upto x k).getD j false = (decide (j < k) && x.getD j false) := by
  simp only [upto, List.getD_eq_getElem?_getD, List.getElem?_map, List.getElem?_zipIdx, Nat.zero_add]
  cases x[j]? <;> simp
theorem upto_zero (x : List Bool) : upto x 0 = List.replicate x.length false := by
  refine list_ext_getD (by simp [upto]) fun j hj => ?_
  rw [upto_get]
  simp [List.getD_eq_getElem?_getD, List.getElem?_replicate]
  split <;> rfl
theorem upto_all (x : List Bool) : upto x x.length = x := by
  refine list_ext_getD (upto_len _ _) fun j hj => ?_
  rw [upto_len] at hj
  rw [upto_get]; simp [hj]
theorem upto_succ (x : List Bool) (k : Nat) (hk : k < x.length) : upto x (k + 1) = (upto x k).set k (x.getD k false) := by
  refine list_ext_getD (by simp [upto_len]) fun j hj => ?_
  rw [upto_len] at hj
  rw [upto_get]
  by_cases e : j = k
  · subst e; simp [List.getD_eq_getElem?_getD, List.getElem?_set, upto_len, hk]
  · have : ((upto x k).set k (x.getD k false)).getD j false = (upto x k).getD j false := by
      simp [List.getD_eq_getElem?_getD, List.getElem?_set, Ne.symm e]
    rw [this, upto_get]
    congr 1
    rw [decide_eq_decide]; omega
theorem upto_skip (x : List Bool) (k : Nat) (hk : x.getD k false = false) : upto x (k + 1) = upto x k := by
  refine list_ext_getD (by simp [upto_len]) fun j hj => ?_
  rw [upto_get, upto_get]
  by_cases e : j = k
  · subst e; simp only [List.getD_eq_getElem?_getD] at hk ⊢; rw [hk]; simp
  · congr 1
    rw [decide_eq_decide]; omega

theorem both_any (hx : Bs w a x) (hy : Bs w b y) (hl : x.length = y.length) (hbig : x.length ≤ 1000000000) : Calls Try.prog 78 #[.slice (some ⟨a, 0, none⟩) x.length c, .slice (some ⟨b, 0, none⟩) y.length d] w fun e w' =>
    e = .returned (.slice (some ⟨w.heap.size, 0, none⟩) x.length x.length) ∧ Blk w' w.heap.size 4 (bools (orB x y)) ∧ Kp (fun _ => False) w w' := by
  have hol := orB_len hl
  refine enter (n := 30) (args := [.slice (some ⟨a, 0, none⟩) x.length c, .slice (some ⟨b, 0, none⟩) y.length d]) Try.func78 rfl rfl rfl (by simp) ?_
  repeat (first | refine qS ?_ | refine qB ?_ | refine qT rfl ?_ | refine qF rfl ?_ | ((first | refine qR rfl ?_ | refine qK ?_ | refine qE ?_ | refine qW ?_ | refine qM ?_); try simp -dsimp (maxSteps := 2000000) (disch := first | omega | (simp only [qZ] <;> omega) | fail) only [push_cast, ↓qP, ↓reduceIte, Nat.reduceEqDiff, Nat.reduceAdd, Nat.reduceMul, Nat.reduceSub, Nat.reduceLeDiff, Int.reduceToNat, reduceCtorEq]) | (refine qA ?_ ?_; (first | omega | (simp only [qL]; omega) | (simp only [qD] at *; omega))))
  refine Wp.loop (α := Nat) (fun j F W => j ≤ x.length ∧ F 0 = .slice (some ⟨a, 0, none⟩) x.length c ∧ F 1 = .slice (some ⟨b, 0, none⟩) y.length d ∧ F 5 = .slice (some ⟨w.heap.size, 0, none⟩) x.length x.length ∧ F 6 = .int .i64 j ∧ Blk W w.heap.size 4 (bools (upto (orB x y) j)) ∧ Kp (fun _ => False) w W) (fun j => x.length - j) 0
    ⟨Nat.zero_le _, by simp [upd, arg], by simp [upd, arg], by simp [upd], by simp [upd], ?_, (Kp.refl _ w).alloc _⟩ ?_
  · have := Blk.new w 4 (zeros [.bool false] x.length)
    rw [zeros_one] at this
    rw [upto_zero, hol]
    simpa [bools, zeros_one] using this
  rintro j F W ⟨hj, f0, f1, f5, f6, hq, hk⟩
  have hx2 := hx.Kp hk
  have hy2 := hy.Kp hk
  have hltx := hx2.1
  have hlty := hy2.1
  have hltq := hq.lt
  rcases Nat.lt_or_ge j x.length with hlt | hge
  · have c1 : decide ((j : Int) < (x.length : Int)) = true := decide_eq_true (by omega)
    have r1 := hx2.2 j hlt
    have r2 := hy2.2 j (by omega)
    have hg := orB_get x y hl j
    have hset := hq.set j (.bool ((orB x y).getD j false))
    rw [bools_set, ← upto_succ _ _ (by omega)] at hset
    have hcell : rdc W w.heap.size j = some (.bool ((upto (orB x y) j).getD j false)) := by
      rw [hq.rdc]; exact bools_get _ _ (by rw [upto_len]; omega)
    rcases Bool.eq_false_or_eq_true (x.getD j false) with c2 | c2
    · rw [c2] at r1 hg
      rw [hg] at hset
      repeat (first | refine qS ?_ | refine qB ?_ | refine qT rfl ?_ | refine qF rfl ?_ | ((first | refine qR rfl ?_ | refine qK ?_ | refine qE ?_ | refine qW ?_ | refine qM ?_); try simp -dsimp (maxSteps := 2000000) (disch := first | omega | (simp only [qZ] <;> omega) | fail) only [push_cast, ↓qP, ↓reduceIte, Nat.reduceEqDiff, Nat.reduceAdd, Nat.reduceMul, Nat.reduceSub, Nat.reduceLeDiff, Int.reduceToNat, reduceCtorEq, f0, f1, f5, f6, c1, r1, hcell, hq.fz]) | (refine qA ?_ ?_; (first | omega | (simp only [qL]; omega) | (simp only [qD] at *; omega))))
      exact Again.mk (j + 1) ⟨by omega, by simp [upd, f0], by simp [upd, f1], by simp [upd, f5], by simp [upd], hset, hk.setCell (fun h => absurd h (Nat.lt_irrefl _)) _⟩ (by omega)
    · rw [c2] at r1 hg
      rw [hg, Bool.false_or] at hset
      repeat (first | refine qS ?_ | refine qB ?_ | refine qT rfl ?_ | refine qF rfl ?_ | ((first | refine qR rfl ?_ | refine qK ?_ | refine qE ?_ | refine qW ?_ | refine qM ?_); try simp -dsimp (maxSteps := 2000000) (disch := first | omega | (simp only [qZ] <;> omega) | fail) only [push_cast, ↓qP, ↓reduceIte, Nat.reduceEqDiff, Nat.reduceAdd, Nat.reduceMul, Nat.reduceSub, Nat.reduceLeDiff, Int.reduceToNat, reduceCtorEq, f0, f1, f5, f6, c1, r1, r2, hcell, hq.fz]) | (refine qA ?_ ?_; (first | omega | (simp only [qL]; omega) | (simp only [qD] at *; omega))))
      exact Again.mk (j + 1) ⟨by omega, by simp [upd, f0], by simp [upd, f1], by simp [upd, f5], by simp [upd], hset, hk.setCell (fun h => absurd h (Nat.lt_irrefl _)) _⟩ (by omega)
  · have c1 : decide ((j : Int) < (x.length : Int)) = false := decide_eq_false (by omega)
    obtain rfl : j = x.length := by omega
    rw [show x.length = (orB x y).length from hol.symm, upto_all] at hq
    repeat (first | refine qS ?_ | refine qB ?_ | refine qT rfl ?_ | refine qF rfl ?_ | ((first | refine qR rfl ?_ | refine qK ?_ | refine qE ?_ | refine qW ?_ | refine qM ?_); try simp -dsimp (maxSteps := 2000000) (disch := first | omega | (simp only [qZ] <;> omega) | fail) only [push_cast, ↓qP, ↓reduceIte, Nat.reduceEqDiff, Nat.reduceAdd, Nat.reduceMul, Nat.reduceSub, Nat.reduceLeDiff, Int.reduceToNat, reduceCtorEq, f0, f1, f5, f6, c1]) | (refine qA ?_ ?_; (first | omega | (simp only [qL]; omega) | (simp only [qD] at *; omega))))
    exact Ret.mk ⟨by simp, hq, hk⟩

theorem same_any (hx : Bs w a x) (hy : Bs w b y) (hl : x.length = y.length) (hbig : x.length ≤ 1000000000) : Calls Try.prog 79 #[.slice (some ⟨a, 0, none⟩) x.length c, .slice (some ⟨b, 0, none⟩) y.length d] w fun e w' =>
    e = .returned (.bool (decide (x = y))) ∧ Kp (fun _ => False) w w' := by
  refine enter (n := 21) (args := [.slice (some ⟨a, 0, none⟩) x.length c, .slice (some ⟨b, 0, none⟩) y.length d]) Try.func79 rfl rfl rfl (by simp) ?_
  repeat (first | refine qS ?_ | refine qB ?_ | refine qT rfl ?_ | refine qF rfl ?_ | ((first | refine qR rfl ?_ | refine qK ?_ | refine qE ?_ | refine qW ?_ | refine qM ?_); try simp -dsimp (maxSteps := 2000000) (disch := first | omega | (simp only [qZ] <;> omega) | fail) only [push_cast, ↓qP, ↓reduceIte, Nat.reduceEqDiff, Nat.reduceAdd, Nat.reduceMul, Nat.reduceSub, Nat.reduceLeDiff, Int.reduceToNat, reduceCtorEq]) | (refine qA ?_ ?_; (first | omega | (simp only [qL]; omega) | (simp only [qD] at *; omega))))
  refine Wp.loop (α := Nat) (fun j F W => j ≤ x.length ∧ F 0 = .slice (some ⟨a, 0, none⟩) x.length c ∧ F 1 = .slice (some ⟨b, 0, none⟩) y.length d ∧ F 5 = .int .i64 j ∧ Kp (fun _ => False) w W ∧ Hide (∀ i, i < j → x.getD i false = y.getD i false)) (fun j => x.length - j) 0
    ⟨Nat.zero_le _, by simp [upd, arg], by simp [upd, arg], by simp [upd], Kp.refl _ w, ⟨fun i hi => by omega⟩⟩ ?_
  rintro j F W ⟨hj, f0, f1, f5, hk, hs⟩
  have hx2 := hx.Kp hk
  have hy2 := hy.Kp hk
  have hltx := hx2.1
  have hlty := hy2.1
  rcases Nat.lt_or_ge j x.length with hlt | hge
  · have c1 : decide ((j : Int) < (x.length : Int)) = true := decide_eq_true (by omega)
    have r1 := hx2.2 j hlt
    have r2 := hy2.2 j (by omega)
    repeat (first | refine qS ?_ | refine qB ?_ | refine qT rfl ?_ | refine qF rfl ?_ | ((first | refine qR rfl ?_ | refine qK ?_ | refine qE ?_ | refine qW ?_ | refine qM ?_); try simp -dsimp (maxSteps := 2000000) (disch := first | omega | (simp only [qZ] <;> omega) | fail) only [push_cast, ↓qP, ↓reduceIte, Nat.reduceEqDiff, Nat.reduceAdd, Nat.reduceMul, Nat.reduceSub, Nat.reduceLeDiff, Int.reduceToNat, reduceCtorEq, f0, f1, f5, c1]) | (refine qA ?_ ?_; (first | omega | (simp only [qL]; omega) | (simp only [qD] at *; omega))))
    refine Wp.draw [0, 0, 3, 7, 0, 0, 48, 112, 255] [] (.op 0 false false [] <| .op 1 false false [] <| .op 2 false false [] <| .op 3 false false [] <| .op 4 false false [] <| .op 5 false false [] <| .op 6 false false [] <| .op 7 false false [] <| .op 8 false false [] <| .nil) mixed (by kernel_rfl) ?_
    simp -dsimp (maxSteps := 2000000) (disch := first | omega | (simp only [qZ] <;> omega) | fail) only [push_cast, ↓qP, ↓reduceIte, Nat.reduceEqDiff, Nat.reduceAdd, Nat.reduceMul, Nat.reduceSub, Nat.reduceLeDiff, Int.reduceToNat, reduceCtorEq, f0, f1, f5, r1, r2]
    refine ⟨by omega, ?_⟩
    rcases Bool.eq_false_or_eq_true (x.getD j false == y.getD j false) with c2 | c2
    · have c2' : (!x.getD j false == y.getD j false) = false := by rw [c2]; rfl
      refine Sm.out ?_
      repeat (first | refine qS ?_ | refine qB ?_ | refine qT rfl ?_ | refine qF rfl ?_ | ((first | refine qR rfl ?_ | refine qK ?_ | refine qE ?_ | refine qW ?_ | refine qM ?_); try simp -dsimp (maxSteps := 2000000) (disch := first | omega | (simp only [qZ] <;> omega) | fail) only [push_cast, ↓qP, ↓reduceIte, Nat.reduceEqDiff, Nat.reduceAdd, Nat.reduceMul, Nat.reduceSub, Nat.reduceLeDiff, Int.reduceToNat, reduceCtorEq, f0, f1, f5, c2']) | (refine qA ?_ ?_; (first | omega | (simp only [qL]; omega) | (simp only [qD] at *; omega))))
      refine Again.mk (j + 1) ⟨by omega, by simp [upd, f0], by simp [upd, f1], by simp [upd], hk.drew, ⟨fun i hi => ?_⟩⟩ (by omega)
      rcases Nat.lt_or_ge i j with h | h
      · exact hs.out i h
      · obtain rfl : i = j := by omega
        simpa using c2
    · have c2' : (!x.getD j false == y.getD j false) = true := by rw [c2]; rfl
      refine Sm.out ?_
      repeat (first | refine qS ?_ | refine qB ?_ | refine qT rfl ?_ | refine qF rfl ?_ | ((first | refine qR rfl ?_ | refine qK ?_ | refine qE ?_ | refine qW ?_ | refine qM ?_); try simp -dsimp (maxSteps := 2000000) (disch := first | omega | (simp only [qZ] <;> omega) | fail) only [push_cast, ↓qP, ↓reduceIte, Nat.reduceEqDiff, Nat.reduceAdd, Nat.reduceMul, Nat.reduceSub, Nat.reduceLeDiff, Int.reduceToNat, reduceCtorEq, f0, f1, f5, c2']) | (refine qA ?_ ?_; (first | omega | (simp only [qL]; omega) | (simp only [qD] at *; omega))))
      refine Ret.mk ⟨?_, hk.drew⟩
      rw [decide_eq_false (fun e => by rw [e] at c2; simp at c2)]
  · have c1 : decide ((j : Int) < (x.length : Int)) = false := decide_eq_false (by omega)
    obtain rfl : j = x.length := by omega
    repeat (first | refine qS ?_ | refine qB ?_ | refine qT rfl ?_ | refine qF rfl ?_ | ((first | refine qR rfl ?_ | refine qK ?_ | refine qE ?_ | refine qW ?_ | refine qM ?_); try simp -dsimp (maxSteps := 2000000) (disch := first | omega | (simp only [qZ] <;> omega) | fail) only [push_cast, ↓qP, ↓reduceIte, Nat.reduceEqDiff, Nat.reduceAdd, Nat.reduceMul, Nat.reduceSub, Nat.reduceLeDiff, Int.reduceToNat, reduceCtorEq, f0, f1, f5, c1]) | (refine qA ?_ ?_; (first | omega | (simp only [qL]; omega) | (simp only [qD] at *; omega))))
    refine Ret.mk ⟨?_, hk⟩
    rw [decide_eq_true (list_ext_getD hl hs.out)]
end
end Go.Proofs.Ytddichibegppjaa

/- The reference's matcher: Ends. -/
namespace Go.Proofs.Ytddichibegppjaa
open Go Go.VC

theorem endsCat_snoc (l : List UInt8) (k : Re) : ∀ (ks : List Re) (fr : List Bool), endsCat l (ks ++ [k]) fr = ends3 l k (endsCat l ks fr)
  | [], fr => by simp [endsCat]
  | e :: ks, fr => by simp only [List.cons_append, endsCat]; exact endsCat_snoc l k ks _
theorem endsAlt_snoc (l : List UInt8) (k : Re) (fr : List Bool) : ∀ (ks : List Re) (out : List Bool), endsAlt l (ks ++ [k]) fr out = orB (endsAlt l ks fr out) (ends3 l k fr)
  | [], out => by simp [endsAlt]
  | e :: ks, out => by simp only [List.cons_append, endsAlt]; exact endsAlt_snoc l k fr ks _
theorem iterE_succ (f : List Bool → List Bool) : ∀ (n : Nat) (x : List Bool), iterE f (n + 1) x = f (iterE f n x)
  | 0, x => rfl
  | n + 1, x => by rw [iterE]; exact iterE_succ f n (f x)
theorem ends3_len (l : List UInt8) (e : Re) (hg : Good e) (fr : List Bool) (hf : fr.length = l.length + 1) : (ends3 l e fr).length = l.length + 1 := (ends3_spec l e hg fr hf).1
theorem Goods_take {ks : List Re} (h : Goods ks) (n : Nat) : Goods (ks.take n) := by
  induction ks generalizing n with
  | nil => simpa using h
  | cons k ks ih =>
    cases n with
    | zero => simp [Goods]
    | succ n => simp only [Goods, List.take_succ_cons] at h ⊢; exact ⟨h.1, ih h.2 n⟩
theorem setE_get (l set : List UInt8) (fr : List Bool) (j : Nat) (hj : j < l.length + 1) : (setE l set fr).getD j false = match j with | 0 => false | i + 1 => fr.getD i false && set.contains (byteAt l i) := by
  simp only [setE, List.getD_eq_getElem?_getD, List.getElem?_map, List.getElem?_range hj, Option.map_some, Option.getD_some]
  cases j <;> rfl

abbrev OutE (w : World) (n : Nat) (x : List Bool) (e : Ending) (w' : World) : Prop :=
  ∃ b c, e = .returned (.slice (some ⟨b, 0, none⟩) n c) ∧ Bs w' b x ∧ Kp (fun _ => False) w w'

section
variable {D : Nat → Prop} {l : List UInt8}

theorem ends3_any (hl : l.length ≤ 1000000) : ∀ e : Re, Good e → wt e ≤ 1000000000 → ∀ (w : World) (cs : List Value) (b c : Nat) (fr : List Bool), IsRe w D e cs → fr.length = l.length + 1 → Bs w b fr →
    Calls Try.prog 62 #[.agg cs.toArray, .string (B l), .slice (some ⟨b, 0, none⟩) (l.length + 1) c] w (OutE w (l.length + 1) (ends3 l e fr)) := by
  refine Re.ind fun op set kids lo hi ih hg hwt w cs b c fr h hfr hbs => ?_
  obtain ⟨A, cc, rfl⟩ := h.cells
  simp only [wt] at hwt
  have hkl := wts_len kids
  have hgb := hg.bounds
  have hgk := hg.kids
  replace hgb : Hide _ := ⟨hgb⟩
  refine enter (n := 149) (args := [.agg #[.string (B op), .string (B set), .slice A kids.length cc, .int .i64 lo, .int .i64 hi], .string (B l), .slice (some ⟨b, 0, none⟩) (l.length + 1) c]) Try.func62 rfl rfl rfl (by simp) ?_
  refine Wp.seq (Wp.region rfl ?_)
  simp -dsimp (maxSteps := 2000000) (disch := first | omega | (simp only [qZ] <;> omega) | fail) only [push_cast, ↓qP, ↓reduceIte, Nat.reduceEqDiff, Nat.reduceAdd, Nat.reduceMul, Nat.reduceSub, Nat.reduceLeDiff, Int.reduceToNat, reduceCtorEq]
  refine Wp.seq (Wp.region rfl ?_)
  simp -dsimp (maxSteps := 2000000) (disch := first | omega | (simp only [qZ] <;> omega) | fail) only [push_cast, ↓qP, ↓reduceIte, Nat.reduceEqDiff, Nat.reduceAdd, Nat.reduceMul, Nat.reduceSub, Nat.reduceLeDiff, Int.reduceToNat, reduceCtorEq]
  refine ⟨by omega, ?_⟩
  obtain ⟨p, hp⟩ : ∃ p, p = w.heap.size := ⟨_, rfl⟩
  obtain ⟨q, hq⟩ : ∃ q, q = w.heap.size + 1 := ⟨_, rfl⟩
  rw [← hq, ← hp]
  refine Wp.gen (A := fun W => Kp (fun _ => False) w W ∧ Blk W p 33 [.string (B op), .string (B set), .slice A kids.length cc, .int .i64 lo, .int .i64 hi] ∧ Blk W q 4 (bools (noP l))) ⟨((Kp.refl _ w).alloc _).alloc _, by rw [hp]; exact (Blk.new w 33 [.string (B op), .string (B set), .slice A kids.length cc, .int .i64 lo, .int .i64 hi]).alloc _, ?_⟩ ?_
  · have := Blk.new (w.alloc (.cells (List.toArray [.string (B op), .string (B set), .slice A kids.length cc, .int .i64 lo, .int .i64 hi]) 33)) 4 (zeros [.bool false] (l.length + 1))
    rw [World.size_alloc, ← hq, zeros_one] at this
    simpa [bools, noP, zeros_one] using this
  rintro w1 ⟨k1, hp1, hq1⟩
  have hN : (noP l).length = l.length + 1 := by simp [noP]
  have e1 : (op == [115, 101, 116]) = decide (op = opSet) := list_eqb _ _
  have e2 : (op == [98, 111, 108]) = decide (op = opBol) := list_eqb _ _
  have e3 : (op == [101, 111, 108]) = decide (op = opEol) := list_eqb _ _
  have e4 : (op == [97, 108, 116]) = decide (op = opAlt) := list_eqb _ _
  have e5 : (op == [114, 101, 112]) = decide (op = opRep) := list_eqb _ _
  have e6 : (op == [99, 97, 116]) = decide (op = opCat) := list_eqb _ _
  have hqw : ¬ q < w.heap.size := by omega
  have hpq : p ≠ q := by omega
  refine Wp.cut (fun F W => ∃ b c, F 7 = .slice (some ⟨b, 0, none⟩) (l.length + 1) c ∧ Bs W b (ends3 l (.node op set kids lo hi) fr) ∧ Kp (fun _ => False) w W) ?_ ?_
  rotate_left
  · rintro F W ⟨b, c, f7, hb, hk⟩
    repeat (first | refine qS ?_ | refine qB ?_ | refine qT rfl ?_ | refine qF rfl ?_ | ((first | refine qR rfl ?_ | refine qK ?_ | refine qE ?_ | refine qW ?_ | refine qM ?_); try simp -dsimp (maxSteps := 2000000) (disch := first | omega | (simp only [qZ] <;> omega) | fail) only [push_cast, ↓qP, ↓reduceIte, Nat.reduceEqDiff, Nat.reduceAdd, Nat.reduceMul, Nat.reduceSub, Nat.reduceLeDiff, Int.reduceToNat, reduceCtorEq, f7]) | (refine qA ?_ ?_; (first | omega | (simp only [qL]; omega) | (simp only [qD] at *; omega))))
    exact Ret.mk ⟨b, c, rfl, hb, hk⟩
  have hltp := hp1.lt
  have hltq := hq1.lt
  have hbs1 := hbs.Kp k1
  have hltb := hbs1.1
  simp only [ends3]
  by_cases c1 : op = opSet
  · have c1' := c1
    rw [decide_eq_true c1] at e1
    rw [if_pos c1]
    repeat (first | refine qS ?_ | refine qB ?_ | refine qT rfl ?_ | refine qF rfl ?_ | ((first | refine qR rfl ?_ | refine qK ?_ | refine qE ?_ | refine qW ?_ | refine qM ?_); try simp -dsimp (maxSteps := 2000000) (disch := first | omega | (simp only [qZ] <;> omega) | fail) only [push_cast, ↓qP, ↓reduceIte, Nat.reduceEqDiff, Nat.reduceAdd, Nat.reduceMul, Nat.reduceSub, Nat.reduceLeDiff, Int.reduceToNat, reduceCtorEq, hp1.rdc, e1]) | (refine qA ?_ ?_; (first | omega | (simp only [qL]; omega) | (simp only [qD] at *; omega))))
    refine Wp.loop (α := Nat) (fun j F W => j ≤ l.length ∧ F 1 = .string (B l) ∧ F 2 = .slice (some ⟨b, 0, none⟩) (l.length + 1) c ∧ F 3 = .pointer (some ⟨p, 0, none⟩) ∧ F 7 = .slice (some ⟨q, 0, none⟩) (l.length + 1) (l.length + 1) ∧ F 8 = .int .i64 j ∧ Blk W p 33 [.string (B op), .string (B set), .slice A kids.length cc, .int .i64 lo, .int .i64 hi] ∧ Blk W q 4 (bools (upto (setE l set fr) (j + 1))) ∧ Kp (fun _ => False) w W) (fun j => l.length - j) 0
      ⟨Nat.zero_le _, by simp [upd, arg], by simp [upd, arg], by simp [upd, hp], by simp [upd, hq], by simp [upd], hp1, ?_, k1⟩ ?_
    · have hx0 : (setE l set fr).getD 0 false = false := setE_get l set fr 0 (by omega)
      rw [upto_skip _ _ hx0, upto_zero, (setE_spec l set fr hfr).1]
      exact hq1
    clear hp1 hq1 hbs1 hltp hltq hltb k1
    rintro j F W ⟨hj, f1, f2, f3, f7, f8, hp1, hq1, k1⟩
    have hltp := hp1.lt
    have hltq := hq1.lt
    have hbs1 := hbs.Kp k1
    have hltb := hbs1.1
    have hxl := (setE_spec l set fr hfr).1
    rcases Nat.lt_or_ge j l.length with hlt | hge
    · have c1 : decide ((j : Int) < (l.length : Int)) = true := decide_eq_true (by omega)
      have r1 := hbs1.2 j (by omega)
      have hx := setE_get l set fr (j + 1) (by omega)
      simp only at hx
      rcases Bool.eq_false_or_eq_true (fr.getD j false) with c2 | c2
      · rw [c2] at r1 hx
        rw [Bool.true_and] at hx
        repeat (first | refine qS ?_ | refine qB ?_ | refine qT rfl ?_ | refine qF rfl ?_ | ((first | refine qR rfl ?_ | refine qK ?_ | refine qE ?_ | refine qW ?_ | refine qM ?_); try simp -dsimp (maxSteps := 2000000) (disch := first | omega | (simp only [qZ] <;> omega) | fail) only [push_cast, ↓qP, ↓reduceIte, Nat.reduceEqDiff, Nat.reduceAdd, Nat.reduceMul, Nat.reduceSub, Nat.reduceLeDiff, Int.reduceToNat, reduceCtorEq, f1, f2, f3, f7, f8, c1]) | (refine qA ?_ ?_; (first | omega | (simp only [qL]; omega) | (simp only [qD] at *; omega))))
        refine Wp.draw [0, 0, 3, 7, 15, 31, 63, 31, 31, 415, 1023, 2047] [10] (.op 0 false false [] <| .op 1 false false [] <| .op 2 false false [] <| .op 3 false false [] <| .op 4 false false [] <| .op 5 false false [] <| .op 6 false false [] <| .op 7 false false [] <| .op 8 false false [] <| .op 9 false false [] <| .op 10 true false [] <| .op 11 false false [] <| .nil) mixed (by kernel_rfl) ?_
        simp -dsimp (maxSteps := 2000000) (disch := first | omega | (simp only [qZ] <;> omega) | fail) only [push_cast, ↓qP, ↓reduceIte, Nat.reduceEqDiff, Nat.reduceAdd, Nat.reduceMul, Nat.reduceSub, Nat.reduceLeDiff, Int.reduceToNat, reduceCtorEq, f1, f2, f3, f7, f8, r1, hp1.rdc]
        refine ⟨by omega, by omega, ?_⟩
        refine CallV.of isCall_77 (has_any set (byteAt l j) W.drew (by have := hg.set c1'; omega)) ?_
        rintro _ _ ⟨rfl, rfl⟩
        have hcell : rdc W q (j + 1) = some (.bool ((upto (setE l set fr) (j + 1)).getD (j + 1) false)) := by rw [hq1.rdc]; exact bools_get _ _ (by rw [upto_len]; omega)
        rcases Bool.eq_false_or_eq_true (set.contains (byteAt l j)) with c3 | c3
        · rw [c3] at hx
          have hset := hq1.set (j + 1) (.bool ((setE l set fr).getD (j + 1) false))
          rw [bools_set, ← upto_succ _ _ (by omega), hx] at hset
          have hix : ((j : Int) + 1).toNat = j + 1 := by omega
          refine Sm.out ?_
          repeat (first | refine qS ?_ | refine qB ?_ | refine qT rfl ?_ | refine qF rfl ?_ | ((first | refine qR rfl ?_ | refine qK ?_ | refine qE ?_ | refine qW ?_ | refine qM ?_); try simp -dsimp (maxSteps := 2000000) (disch := first | omega | (simp only [qZ] <;> omega) | fail) only [push_cast, ↓qP, ↓reduceIte, Nat.reduceEqDiff, Nat.reduceAdd, Nat.reduceMul, Nat.reduceSub, Nat.reduceLeDiff, Int.reduceToNat, reduceCtorEq, f1, f2, f3, f7, f8, c3, hix, hcell, hq1.fz]) | (refine qA ?_ ?_; (first | omega | (simp only [qL]; omega) | (simp only [qD] at *; omega))))
          exact Again.mk (j + 1) ⟨by omega, by simp [upd, f1], by simp [upd, f2], by simp [upd, f3], by simp [upd, f7], by simp [upd], hp1.drew.far hpq _, hset, (k1.drew.setCell (fun h => absurd h hqw) _)⟩ (by omega)
        · rw [c3] at hx
          refine Sm.out ?_
          repeat (first | refine qS ?_ | refine qB ?_ | refine qT rfl ?_ | refine qF rfl ?_ | ((first | refine qR rfl ?_ | refine qK ?_ | refine qE ?_ | refine qW ?_ | refine qM ?_); try simp -dsimp (maxSteps := 2000000) (disch := first | omega | (simp only [qZ] <;> omega) | fail) only [push_cast, ↓qP, ↓reduceIte, Nat.reduceEqDiff, Nat.reduceAdd, Nat.reduceMul, Nat.reduceSub, Nat.reduceLeDiff, Int.reduceToNat, reduceCtorEq, f1, f2, f3, f7, f8, c3]) | (refine qA ?_ ?_; (first | omega | (simp only [qL]; omega) | (simp only [qD] at *; omega))))
          exact Again.mk (j + 1) ⟨by omega, by simp [upd, f1], by simp [upd, f2], by simp [upd, f3], by simp [upd, f7], by simp [upd], hp1.drew, by rw [upto_skip _ _ hx]; exact hq1, k1.drew⟩ (by omega)
      · rw [c2] at r1 hx
        rw [Bool.false_and] at hx
        repeat (first | refine qS ?_ | refine qB ?_ | refine qT rfl ?_ | refine qF rfl ?_ | ((first | refine qR rfl ?_ | refine qK ?_ | refine qE ?_ | refine qW ?_ | refine qM ?_); try simp -dsimp (maxSteps := 2000000) (disch := first | omega | (simp only [qZ] <;> omega) | fail) only [push_cast, ↓qP, ↓reduceIte, Nat.reduceEqDiff, Nat.reduceAdd, Nat.reduceMul, Nat.reduceSub, Nat.reduceLeDiff, Int.reduceToNat, reduceCtorEq, f1, f2, f3, f7, f8, c1]) | (refine qA ?_ ?_; (first | omega | (simp only [qL]; omega) | (simp only [qD] at *; omega))))
        refine Wp.draw [0, 0, 3, 7, 15, 31, 63, 31, 31, 415, 1023, 2047] [10] (.op 0 false false [] <| .op 1 false false [] <| .op 2 false false [] <| .op 3 false false [] <| .op 4 false false [] <| .op 5 false false [] <| .op 6 false false [] <| .op 7 false false [] <| .op 8 false false [] <| .op 9 false false [] <| .op 10 true false [] <| .op 11 false false [] <| .nil) mixed (by kernel_rfl) ?_
        simp -dsimp (maxSteps := 2000000) (disch := first | omega | (simp only [qZ] <;> omega) | fail) only [push_cast, ↓qP, ↓reduceIte, Nat.reduceEqDiff, Nat.reduceAdd, Nat.reduceMul, Nat.reduceSub, Nat.reduceLeDiff, Int.reduceToNat, reduceCtorEq, f1, f2, f3, f7, f8, r1]
        refine ⟨by omega, ?_⟩
        refine Sm.out ?_
        repeat (first | refine qS ?_ | refine qB ?_ | refine qT rfl ?_ | refine qF rfl ?_ | ((first | refine qR rfl ?_ | refine qK ?_ | refine qE ?_ | refine qW ?_ | refine qM ?_); try simp -dsimp (maxSteps := 2000000) (disch := first | omega | (simp only [qZ] <;> omega) | fail) only [push_cast, ↓qP, ↓reduceIte, Nat.reduceEqDiff, Nat.reduceAdd, Nat.reduceMul, Nat.reduceSub, Nat.reduceLeDiff, Int.reduceToNat, reduceCtorEq, f1, f2, f3, f7, f8]) | (refine qA ?_ ?_; (first | omega | (simp only [qL]; omega) | (simp only [qD] at *; omega))))
        exact Again.mk (j + 1) ⟨by omega, by simp [upd, f1], by simp [upd, f2], by simp [upd, f3], by simp [upd, f7], by simp [upd], hp1.drew, by rw [upto_skip _ _ hx]; exact hq1, k1.drew⟩ (by omega)
    · obtain rfl : j = l.length := by omega
      have c1 : decide ((l.length : Int) < (l.length : Int)) = false := decide_eq_false (by omega)
      rw [← hxl, upto_all] at hq1
      repeat (first | refine qS ?_ | refine qB ?_ | refine qT rfl ?_ | refine qF rfl ?_ | ((first | refine qR rfl ?_ | refine qK ?_ | refine qE ?_ | refine qW ?_ | refine qM ?_); try simp -dsimp (maxSteps := 2000000) (disch := first | omega | (simp only [qZ] <;> omega) | fail) only [push_cast, ↓qP, ↓reduceIte, Nat.reduceEqDiff, Nat.reduceAdd, Nat.reduceMul, Nat.reduceSub, Nat.reduceLeDiff, Int.reduceToNat, reduceCtorEq, f1, f2, f3, f7, f8, c1]) | (refine qA ?_ ?_; (first | omega | (simp only [qL]; omega) | (simp only [qD] at *; omega))))
      exact Mid.mk ⟨q, l.length + 1, by simp [upd, f7], blk_bs hq1, k1⟩
  rw [decide_eq_false c1] at e1
  rw [if_neg c1]
  by_cases c2 : op = opBol
  · rw [decide_eq_true c2] at e2
    rw [if_pos c2]
    have r1 := hbs1.2 0 (by omega)
    have hcell : rdc w1 q 0 = some (.bool ((noP l).getD 0 false)) := by rw [hq1.rdc]; exact bools_get _ _ (by omega)
    repeat (first | refine qS ?_ | refine qB ?_ | refine qT rfl ?_ | refine qF rfl ?_ | ((first | refine qR rfl ?_ | refine qK ?_ | refine qE ?_ | refine qW ?_ | refine qM ?_); try simp -dsimp (maxSteps := 2000000) (disch := first | omega | (simp only [qZ] <;> omega) | fail) only [push_cast, ↓qP, ↓reduceIte, Nat.reduceEqDiff, Nat.reduceAdd, Nat.reduceMul, Nat.reduceSub, Nat.reduceLeDiff, Int.reduceToNat, reduceCtorEq, hp1.rdc, e1, e2, r1, hcell, hq1.fz]) | (refine qA ?_ ?_; (first | omega | (simp only [qL]; omega) | (simp only [qD] at *; omega))))
    have hset := hq1.set 0 (.bool (fr.getD 0 false))
    rw [bools_set] at hset
    exact Mid.mk ⟨q, l.length + 1, by simp [upd, hq], blk_bs hset, k1.setCell (fun h => absurd h hqw) _⟩
  rw [decide_eq_false c2] at e2
  rw [if_neg c2]
  by_cases c3 : op = opEol
  · rw [decide_eq_true c3] at e3
    rw [if_pos c3]
    have r1 := hbs1.2 l.length (by omega)
    have hcell : rdc w1 q l.length = some (.bool ((noP l).getD l.length false)) := by rw [hq1.rdc]; exact bools_get _ _ (by omega)
    repeat (first | refine qS ?_ | refine qB ?_ | refine qT rfl ?_ | refine qF rfl ?_ | ((first | refine qR rfl ?_ | refine qK ?_ | refine qE ?_ | refine qW ?_ | refine qM ?_); try simp -dsimp (maxSteps := 2000000) (disch := first | omega | (simp only [qZ] <;> omega) | fail) only [push_cast, ↓qP, ↓reduceIte, Nat.reduceEqDiff, Nat.reduceAdd, Nat.reduceMul, Nat.reduceSub, Nat.reduceLeDiff, Int.reduceToNat, reduceCtorEq, hp1.rdc, e1, e2, e3, r1, hcell, hq1.fz]) | (refine qA ?_ ?_; (first | omega | (simp only [qL]; omega) | (simp only [qD] at *; omega))))
    have hset := hq1.set l.length (.bool (fr.getD l.length false))
    rw [bools_set] at hset
    exact Mid.mk ⟨q, l.length + 1, by simp [upd, hq], blk_bs hset, k1.setCell (fun h => absurd h hqw) _⟩
  rw [decide_eq_false c3] at e3
  rw [if_neg c3]
  by_cases c4 : op = opCat
  · rw [decide_eq_true c4] at e6
    rw [if_pos c4]
    repeat (first | refine qS ?_ | refine qB ?_ | refine qT rfl ?_ | refine qF rfl ?_ | ((first | refine qR rfl ?_ | refine qK ?_ | refine qE ?_ | refine qW ?_ | refine qM ?_); try simp -dsimp (maxSteps := 2000000) (disch := first | omega | (simp only [qZ] <;> omega) | fail) only [push_cast, ↓qP, ↓reduceIte, Nat.reduceEqDiff, Nat.reduceAdd, Nat.reduceMul, Nat.reduceSub, Nat.reduceLeDiff, Int.reduceToNat, reduceCtorEq, hp1.rdc, e1, e2, e3, e6]) | (refine qA ?_ ?_; (first | omega | (simp only [qL]; omega) | (simp only [qD] at *; omega))))
    refine Wp.loop (α := Nat) (fun j F W => j ≤ kids.length ∧ F 1 = .string (B l) ∧ F 3 = .pointer (some ⟨p, 0, none⟩) ∧ F 9 = .int .i64 j ∧ Blk W p 33 [.string (B op), .string (B set), .slice A kids.length cc, .int .i64 lo, .int .i64 hi] ∧ Kp (fun _ => False) w W ∧ ∃ b c, F 7 = .slice (some ⟨b, 0, none⟩) (l.length + 1) c ∧ Bs W b (endsCat l (kids.take j) fr)) (fun j => kids.length - j) 0
      ⟨Nat.zero_le _, by simp [upd, arg], by simp [upd, hp], by simp [upd], hp1, k1, b, c, by simp [upd, arg], by simpa [endsCat] using hbs1⟩ ?_
    clear k1 hp1 hq1 hbs1 hltp hltq hltb
    rintro j F W ⟨hj, f1, f3, f9, hp1, k1, b, c, f7, hb⟩
    have hltp := hp1.lt
    rcases Nat.lt_or_ge j kids.length with hlt | hge
    · have c1 : decide ((j : Int) < (kids.length : Int)) = true := decide_eq_true (by omega)
      have hget : kids[j]? = some kids[j] := (List.getElem?_eq_getElem hlt)
      obtain ⟨kb, o, d0, d1, A1, m1, d2, lo1, hi1, rfl, hbl, hD, q0, q1, q2, q3, q4, hre, _⟩ := h.kid k1 hget
      have hmem : kids[j] ∈ kids := List.mem_of_getElem? hget
      have hgj := Goods_mem hgk hmem
      have hwj := wts_mem hmem
      have hlen := (endsCat_spec l (kids.take j) (Goods_take hgk j) fr hfr).1
      repeat (first | refine qS ?_ | refine qB ?_ | refine qT rfl ?_ | refine qF rfl ?_ | ((first | refine qR rfl ?_ | refine qK ?_ | refine qE ?_ | refine qW ?_ | refine qM ?_); try simp -dsimp (maxSteps := 2000000) (disch := first | omega | (simp only [qZ] <;> omega) | fail) only [push_cast, ↓qP, ↓reduceIte, Nat.reduceEqDiff, Nat.reduceAdd, Nat.reduceMul, Nat.reduceSub, Nat.reduceLeDiff, Int.reduceToNat, reduceCtorEq, f1, f3, f9, f7, hp1.rdc, c1, q0, q1, q2, q3, q4]) | (refine qA ?_ ?_; (first | omega | (simp only [qL]; omega) | (simp only [qD] at *; omega))))
      refine CallV.of isCall_62 (ih _ hmem hgj (by omega) W _ b c _ hre hlen hb) ?_
      rintro _ W2 ⟨b2, cap2, rfl, hb2, k2⟩
      refine Sm.out ?_
      repeat (first | refine qS ?_ | refine qB ?_ | refine qT rfl ?_ | refine qF rfl ?_ | ((first | refine qR rfl ?_ | refine qK ?_ | refine qE ?_ | refine qW ?_ | refine qM ?_); try simp -dsimp (maxSteps := 2000000) (disch := first | omega | (simp only [qZ] <;> omega) | fail) only [push_cast, ↓qP, ↓reduceIte, Nat.reduceEqDiff, Nat.reduceAdd, Nat.reduceMul, Nat.reduceSub, Nat.reduceLeDiff, Int.reduceToNat, reduceCtorEq, f1, f3, f9]) | (refine qA ?_ ?_; (first | omega | (simp only [qL]; omega) | (simp only [qD] at *; omega))))
      exact Again.mk (j + 1) ⟨by omega, by simp [upd, f1], by simp [upd, f3], by simp [upd], k2.Blk hp1 id, k1.trans k2, b2, cap2, by simp [upd], by rw [List.take_succ_eq_append_getElem hlt, endsCat_snoc]; exact hb2⟩ (by omega)
    · obtain rfl : j = kids.length := by omega
      have c1 : decide ((kids.length : Int) < (kids.length : Int)) = false := decide_eq_false (by omega)
      rw [List.take_length] at hb
      repeat (first | refine qS ?_ | refine qB ?_ | refine qT rfl ?_ | refine qF rfl ?_ | ((first | refine qR rfl ?_ | refine qK ?_ | refine qE ?_ | refine qW ?_ | refine qM ?_); try simp -dsimp (maxSteps := 2000000) (disch := first | omega | (simp only [qZ] <;> omega) | fail) only [push_cast, ↓qP, ↓reduceIte, Nat.reduceEqDiff, Nat.reduceAdd, Nat.reduceMul, Nat.reduceSub, Nat.reduceLeDiff, Int.reduceToNat, reduceCtorEq, f1, f3, f9, hp1.rdc, c1]) | (refine qA ?_ ?_; (first | omega | (simp only [qL]; omega) | (simp only [qD] at *; omega))))
      exact Mid.mk ⟨b, c, by simp [upd, f7], hb, k1⟩
  rw [decide_eq_false c4] at e6
  rw [if_neg c4]
  by_cases c5 : op = opAlt
  · rw [decide_eq_true c5] at e4
    rw [if_pos c5]
    repeat (first | refine qS ?_ | refine qB ?_ | refine qT rfl ?_ | refine qF rfl ?_ | ((first | refine qR rfl ?_ | refine qK ?_ | refine qE ?_ | refine qW ?_ | refine qM ?_); try simp -dsimp (maxSteps := 2000000) (disch := first | omega | (simp only [qZ] <;> omega) | fail) only [push_cast, ↓qP, ↓reduceIte, Nat.reduceEqDiff, Nat.reduceAdd, Nat.reduceMul, Nat.reduceSub, Nat.reduceLeDiff, Int.reduceToNat, reduceCtorEq, hp1.rdc, e1, e2, e3, e6, e4]) | (refine qA ?_ ?_; (first | omega | (simp only [qL]; omega) | (simp only [qD] at *; omega))))
    refine Wp.loop (α := Nat) (fun j F W => j ≤ kids.length ∧ F 1 = .string (B l) ∧ F 2 = .slice (some ⟨b, 0, none⟩) (l.length + 1) c ∧ F 3 = .pointer (some ⟨p, 0, none⟩) ∧ F 10 = .int .i64 j ∧ Blk W p 33 [.string (B op), .string (B set), .slice A kids.length cc, .int .i64 lo, .int .i64 hi] ∧ Kp (fun _ => False) w W ∧ ∃ b c, F 7 = .slice (some ⟨b, 0, none⟩) (l.length + 1) c ∧ Bs W b (endsAlt l (kids.take j) fr (noP l))) (fun j => kids.length - j) 0
      ⟨Nat.zero_le _, by simp [upd, arg], by simp [upd, arg], by simp [upd, hp], by simp [upd], hp1, k1, q, l.length + 1, by simp [upd, hq], by simpa [endsAlt] using blk_bs hq1⟩ ?_
    clear hp1 hq1 hbs1 hltp hltq hltb k1
    rintro j F W ⟨hj, f1, f2, f3, f10, hp1, k1, b', c', f7, hb⟩
    have hltp := hp1.lt
    rcases Nat.lt_or_ge j kids.length with hlt | hge
    · have c1 : decide ((j : Int) < (kids.length : Int)) = true := decide_eq_true (by omega)
      have hget : kids[j]? = some kids[j] := (List.getElem?_eq_getElem hlt)
      obtain ⟨kb, o, d0, d1, A1, m1, d2, lo1, hi1, rfl, hbl, hD, q0, q1, q2, q3, q4, hre, _⟩ := h.kid k1 hget
      have hmem : kids[j] ∈ kids := List.mem_of_getElem? hget
      have hgj := Goods_mem hgk hmem
      have hwj := wts_mem hmem
      have hlen := (endsAlt_spec l (kids.take j) (Goods_take hgk j) fr (noP l) hfr hN).1
      have hlen2 := ends3_len l _ hgj fr hfr
      have hbs1 := hbs.Kp k1
      repeat (first | refine qS ?_ | refine qB ?_ | refine qT rfl ?_ | refine qF rfl ?_ | ((first | refine qR rfl ?_ | refine qK ?_ | refine qE ?_ | refine qW ?_ | refine qM ?_); try simp -dsimp (maxSteps := 2000000) (disch := first | omega | (simp only [qZ] <;> omega) | fail) only [push_cast, ↓qP, ↓reduceIte, Nat.reduceEqDiff, Nat.reduceAdd, Nat.reduceMul, Nat.reduceSub, Nat.reduceLeDiff, Int.reduceToNat, reduceCtorEq, f1, f2, f3, f10, f7, hp1.rdc, c1, q0, q1, q2, q3, q4]) | (refine qA ?_ ?_; (first | omega | (simp only [qL]; omega) | (simp only [qD] at *; omega))))
      refine CallV.of isCall_62 (ih _ hmem hgj (by omega) W _ b c _ hre hfr hbs1) ?_
      rintro _ W2 ⟨b2, cap2, rfl, hb2, k2⟩
      have hb' := hb.Kp k2
      have hboth := both_any (c := c') (d := cap2) hb' hb2 (by omega) (by omega)
      rw [hlen, hlen2] at hboth
      refine Sm.out ?_
      repeat (first | refine qS ?_ | refine qB ?_ | refine qT rfl ?_ | refine qF rfl ?_ | ((first | refine qR rfl ?_ | refine qK ?_ | refine qE ?_ | refine qW ?_ | refine qM ?_); try simp -dsimp (maxSteps := 2000000) (disch := first | omega | (simp only [qZ] <;> omega) | fail) only [push_cast, ↓qP, ↓reduceIte, Nat.reduceEqDiff, Nat.reduceAdd, Nat.reduceMul, Nat.reduceSub, Nat.reduceLeDiff, Int.reduceToNat, reduceCtorEq, f1, f2, f3, f10, f7]) | (refine qA ?_ ?_; (first | omega | (simp only [qL]; omega) | (simp only [qD] at *; omega))))
      refine CallV.of isCall_78 hboth ?_
      rintro _ W3 ⟨rfl, hb3, k3⟩
      refine Sm.out ?_
      repeat (first | refine qS ?_ | refine qB ?_ | refine qT rfl ?_ | refine qF rfl ?_ | ((first | refine qR rfl ?_ | refine qK ?_ | refine qE ?_ | refine qW ?_ | refine qM ?_); try simp -dsimp (maxSteps := 2000000) (disch := first | omega | (simp only [qZ] <;> omega) | fail) only [push_cast, ↓qP, ↓reduceIte, Nat.reduceEqDiff, Nat.reduceAdd, Nat.reduceMul, Nat.reduceSub, Nat.reduceLeDiff, Int.reduceToNat, reduceCtorEq, f1, f2, f3, f10, f7]) | (refine qA ?_ ?_; (first | omega | (simp only [qL]; omega) | (simp only [qD] at *; omega))))
      exact Again.mk (j + 1) ⟨by omega, by simp [upd, f1], by simp [upd, f2], by simp [upd, f3], by simp [upd], (k2.trans k3).Blk hp1 id, k1.trans (k2.trans k3), W2.heap.size, l.length + 1, by simp [upd], by rw [List.take_succ_eq_append_getElem hlt, endsAlt_snoc]; exact blk_bs hb3⟩ (by omega)
    · obtain rfl : j = kids.length := by omega
      have c1 : decide ((kids.length : Int) < (kids.length : Int)) = false := decide_eq_false (by omega)
      rw [List.take_length] at hb
      repeat (first | refine qS ?_ | refine qB ?_ | refine qT rfl ?_ | refine qF rfl ?_ | ((first | refine qR rfl ?_ | refine qK ?_ | refine qE ?_ | refine qW ?_ | refine qM ?_); try simp -dsimp (maxSteps := 2000000) (disch := first | omega | (simp only [qZ] <;> omega) | fail) only [push_cast, ↓qP, ↓reduceIte, Nat.reduceEqDiff, Nat.reduceAdd, Nat.reduceMul, Nat.reduceSub, Nat.reduceLeDiff, Int.reduceToNat, reduceCtorEq, f1, f3, f10, hp1.rdc, c1]) | (refine qA ?_ ?_; (first | omega | (simp only [qL]; omega) | (simp only [qD] at *; omega))))
      exact Mid.mk ⟨b', c', by simp [upd, f7], hb, k1⟩
  rw [decide_eq_false c5] at e4
  rw [if_neg c5]
  by_cases c6 : op = opRep
  · rw [decide_eq_true c6] at e5
    rw [if_pos c6]
    obtain ⟨b1, b2, b3, b4, b5, b6⟩ := hgb.out c6
    repeat (first | refine qS ?_ | refine qB ?_ | refine qT rfl ?_ | refine qF rfl ?_ | ((first | refine qR rfl ?_ | refine qK ?_ | refine qE ?_ | refine qW ?_ | refine qM ?_); try simp -dsimp (maxSteps := 2000000) (disch := first | omega | (simp only [qZ] <;> omega) | fail) only [push_cast, ↓qP, ↓reduceIte, Nat.reduceEqDiff, Nat.reduceAdd, Nat.reduceMul, Nat.reduceSub, Nat.reduceLeDiff, Int.reduceToNat, reduceCtorEq, hp1.rdc, e1, e2, e3, e6, e4, e5]) | (refine qA ?_ ?_; (first | omega | (simp only [qL]; omega) | (simp only [qD] at *; omega))))
    obtain ⟨k0, rfl⟩ : ∃ k0, kids = [k0] := by
      match kids, b6 with
      | [k0], _ => exact ⟨k0, rfl⟩
    obtain ⟨n0, rfl⟩ : ∃ n0 : Nat, lo = n0 := ⟨lo.toNat, by omega⟩
    have hn0 : ((n0 : Int)).toNat = n0 := by omega
    have hgk0 : Good k0 := by simp only [Goods] at hgk; exact hgk.1
    have hf := ends3_spec l k0 hgk0
    clear hgb hN
    refine Wp.loop (α := Nat) (fun j F W => j ≤ n0 ∧ F 1 = .string (B l) ∧ F 3 = .pointer (some ⟨p, 0, none⟩) ∧ F 12 = .int .i64 j ∧ Blk W p 33 [.string (B op), .string (B set), .slice A 1 cc, .int .i64 n0, .int .i64 hi] ∧ Kp (fun _ => False) w W ∧ ∃ b c, F 11 = .slice (some ⟨b, 0, none⟩) (l.length + 1) c ∧ Bs W b (iterE (ends3 l k0) j fr)) (fun j => n0 - j) 0
      ⟨Nat.zero_le _, by simp [upd, arg], by simp [upd, hp], by simp [upd], hp1, k1, b, c, by simp [upd, arg], hbs1⟩ ?_
    clear k1 hp1 hq1 hbs1 hltp hltq hltb
    rintro j F W ⟨hj, f1, f3, f12, hp1, k1, b, c, f11, hb⟩
    have hltp := hp1.lt
    have hget : [k0][0]? = some k0 := rfl
    obtain ⟨kb, o, d0, d1, A1, m1, d2, lo1, hi1, rfl, hbl, hD, q0, q1, q2, q3, q4, hre, _⟩ := h.kid k1 hget
    have hmem : k0 ∈ [k0] := by simp
    have hgj := hgk0
    have hwj := wts_mem hmem
    have hlen := (hf.iter j fr hfr).1
    simp only [Nat.zero_mul, Nat.add_zero] at q0 q1 q2 q3 q4
    rcases Nat.lt_or_ge j n0 with hlt | hge
    · have c1 : decide ((j : Int) < (n0 : Int)) = true := decide_eq_true (by omega)
      repeat (first | refine qS ?_ | refine qB ?_ | refine qT rfl ?_ | refine qF rfl ?_ | ((first | refine qR rfl ?_ | refine qK ?_ | refine qE ?_ | refine qW ?_ | refine qM ?_); try simp -dsimp (maxSteps := 2000000) (disch := first | omega | (simp only [qZ] <;> omega) | fail) only [push_cast, ↓qP, ↓reduceIte, Nat.reduceEqDiff, Nat.reduceAdd, Nat.reduceMul, Nat.reduceSub, Nat.reduceLeDiff, Int.reduceToNat, reduceCtorEq, f1, f3, f12, f11, hp1.rdc, c1, q0, q1, q2, q3, q4]) | (refine qA ?_ ?_; (first | omega | (simp only [qL]; omega) | (simp only [qD] at *; omega))))
      refine CallV.of isCall_62 (ih _ hmem hgj (by omega) W _ b c _ hre hlen hb) ?_
      rintro _ W2 ⟨b2, cap2, rfl, hb2, k2⟩
      refine Sm.out ?_
      repeat (first | refine qS ?_ | refine qB ?_ | refine qT rfl ?_ | refine qF rfl ?_ | ((first | refine qR rfl ?_ | refine qK ?_ | refine qE ?_ | refine qW ?_ | refine qM ?_); try simp -dsimp (maxSteps := 2000000) (disch := first | omega | (simp only [qZ] <;> omega) | fail) only [push_cast, ↓qP, ↓reduceIte, Nat.reduceEqDiff, Nat.reduceAdd, Nat.reduceMul, Nat.reduceSub, Nat.reduceLeDiff, Int.reduceToNat, reduceCtorEq, f1, f3, f12, f11]) | (refine qA ?_ ?_; (first | omega | (simp only [qL]; omega) | (simp only [qD] at *; omega))))
      exact Again.mk (j + 1) ⟨by omega, by simp [upd, f1], by simp [upd, f3], by simp [upd], k2.Blk hp1 id, k1.trans k2, b2, cap2, by simp [upd], by rw [iterE_succ]; exact hb2⟩ (by omega)
    obtain rfl : j = n0 := by omega
    have c1 : decide ((j : Int) < (j : Int)) = false := decide_eq_false (by omega)
    repeat (first | refine qS ?_ | refine qB ?_ | refine qT rfl ?_ | refine qF rfl ?_ | ((first | refine qR rfl ?_ | refine qK ?_ | refine qE ?_ | refine qW ?_ | refine qM ?_); try simp -dsimp (maxSteps := 2000000) (disch := first | omega | (simp only [qZ] <;> omega) | fail) only [push_cast, ↓qP, ↓reduceIte, Nat.reduceEqDiff, Nat.reduceAdd, Nat.reduceMul, Nat.reduceSub, Nat.reduceLeDiff, Int.reduceToNat, reduceCtorEq, f1, f3, f12, f11, hp1.rdc, c1]) | (refine qA ?_ ?_; (first | omega | (simp only [qL]; omega) | (simp only [qD] at *; omega))))
    generalize hx0 : iterE (ends3 l k0) j fr = x0 at *
    have hres : endsRep l [k0] j hi fr = if hi < 0 then starE (ends3 l k0) (l.length + 2) x0 else boundE (ends3 l k0) (hi - j).toNat x0 x0 := by
      simp only [endsRep, hn0, hx0]
    by_cases hneg : hi < 0
    · obtain rfl : hi = -1 := by omega
      rw [if_pos hneg] at hres
      rw [hres]
      obtain ⟨R, hR⟩ : ∃ R, R = starE (ends3 l k0) (l.length + 2) x0 := ⟨_, rfl⟩
      rw [← hR]
      clear hres
      refine Wp.loop (α := Nat) (fun m F W => F 1 = .string (B l) ∧ F 3 = .pointer (some ⟨p, 0, none⟩) ∧ Blk W p 33 [.string (B op), .string (B set), .slice (some ⟨kb, o, none⟩) 1 cc, .int .i64 j, .int .i64 (-1)] ∧ Kp (fun _ => False) w W ∧ ∃ k : Nat, ∃ out b1 c1 b2 c2, F 13 = .int .i64 k ∧ k + m = j + (l.length + 2) ∧ F 11 = .slice (some ⟨b1, 0, none⟩) (l.length + 1) c1 ∧ F 7 = .slice (some ⟨b2, 0, none⟩) (l.length + 1) c2 ∧ Bs W b1 out ∧ Bs W b2 out ∧ out.length = l.length + 1 ∧ l.length + 1 < cnt out + m ∧ Hide (starE (ends3 l k0) m out = R)) (fun m => m) (l.length + 2)
        ⟨by simp [upd, f1], by simp [upd, f3], hp1, k1, j, x0, b, c, b, c, by simp [upd], rfl, by simp [upd, f11], by simp [upd, f11], hb, hb, hlen, by omega, ⟨hR.symm⟩⟩ ?_
      clear hp1 k1 hb f1 f3 f12 f11 hltp q0 q1 q2 q3 q4 hre
      rintro m F W ⟨f1, f3, hp1, k1, k, out, b1, c1, b2, c2, f13, hkm, f11, f7, hb1, hb2, hol, hcnt, hst⟩
      have hltp := hp1.lt
      obtain ⟨m, rfl⟩ : ∃ m', m = m' + 1 := ⟨m - 1, by have := cnt_le out; omega⟩
      obtain ⟨kb', o', d0, d1, A1, m1, d2, lo1, hi1, hA, hbl, hD', q0, q1, q2, q3, q4, hre, _⟩ := h.kid k1 hget
      injection hA with hA
      injection hA with hA1 hA2
      subst hA1; subst hA2
      simp only [Nat.zero_mul, Nat.add_zero] at q0 q1 q2 q3 q4
      have c1' : ((k : Int) != -1) = true := by simp <;> omega
      have hlen3 := ends3_len l _ hgk0 out hol
      repeat (first | refine qS ?_ | refine qB ?_ | refine qT rfl ?_ | refine qF rfl ?_ | ((first | refine qR rfl ?_ | refine qK ?_ | refine qE ?_ | refine qW ?_ | refine qM ?_); try simp -dsimp (maxSteps := 2000000) (disch := first | omega | (simp only [qZ] <;> omega) | fail) only [push_cast, ↓qP, ↓reduceIte, Nat.reduceEqDiff, Nat.reduceAdd, Nat.reduceMul, Nat.reduceSub, Nat.reduceLeDiff, Int.reduceToNat, reduceCtorEq, f1, f3, f13, f11, hp1.rdc, c1', q0, q1, q2, q3, q4]) | (refine qA ?_ ?_; (first | omega | (simp only [qL]; omega) | (simp only [qD] at *; omega))))
      refine CallV.of isCall_62 (ih _ hmem hgj (by omega) W _ b1 c1 _ hre hol hb1) ?_
      rintro _ W2 ⟨b3, cap3, rfl, hb3, k2⟩
      have hboth := both_any (c := c2) (d := cap3) (hb2.Kp k2) hb3 (by omega) (by omega)
      rw [hol, hlen3] at hboth
      refine Sm.out ?_
      repeat (first | refine qS ?_ | refine qB ?_ | refine qT rfl ?_ | refine qF rfl ?_ | ((first | refine qR rfl ?_ | refine qK ?_ | refine qE ?_ | refine qW ?_ | refine qM ?_); try simp -dsimp (maxSteps := 2000000) (disch := first | omega | (simp only [qZ] <;> omega) | fail) only [push_cast, ↓qP, ↓reduceIte, Nat.reduceEqDiff, Nat.reduceAdd, Nat.reduceMul, Nat.reduceSub, Nat.reduceLeDiff, Int.reduceToNat, reduceCtorEq, f1, f3, f13, f7]) | (refine qA ?_ ?_; (first | omega | (simp only [qL]; omega) | (simp only [qD] at *; omega))))
      refine CallV.of isCall_78 hboth ?_
      rintro _ W3 ⟨rfl, hb4, k3⟩
      have hlen4 : (orB out (ends3 l k0 out)).length = l.length + 1 := by rw [orB_len (by omega)]; exact hol
      have hp3 := (k2.trans k3).Blk hp1 id
      have hltp3 := hp3.lt
      have hsame := same_any (c := l.length + 1) (d := c2) (blk_bs hb4) (hb2.Kp (k2.trans k3)) (by omega) (by omega)
      rw [hlen4, hol] at hsame
      have c0 : decide ((-1 : Int) < 0) = true := rfl
      refine Sm.out ?_
      repeat (first | refine qS ?_ | refine qB ?_ | refine qT rfl ?_ | refine qF rfl ?_ | ((first | refine qR rfl ?_ | refine qK ?_ | refine qE ?_ | refine qW ?_ | refine qM ?_); try simp -dsimp (maxSteps := 2000000) (disch := first | omega | (simp only [qZ] <;> omega) | fail) only [push_cast, ↓qP, ↓reduceIte, Nat.reduceEqDiff, Nat.reduceAdd, Nat.reduceMul, Nat.reduceSub, Nat.reduceLeDiff, Int.reduceToNat, reduceCtorEq, f1, f3, f13, f7, hp3.rdc, c0]) | (refine qA ?_ ?_; (first | omega | (simp only [qL]; omega) | (simp only [qD] at *; omega))))
      refine CallV.of isCall_79 hsame ?_
      rintro _ W4 ⟨rfl, k4⟩
      have hp4 := k4.Blk hp3 id
      have hltp4 := hp4.lt
      have hst1 := hst.out
      simp only [starE] at hst1
      by_cases hst2 : orB out (ends3 l k0 out) = out
      · rw [if_pos hst2] at hst1
        have c3 : decide (orB out (ends3 l k0 out) = out) = true := decide_eq_true hst2
        refine Sm.out ?_
        repeat (first | refine qS ?_ | refine qB ?_ | refine qT rfl ?_ | refine qF rfl ?_ | ((first | refine qR rfl ?_ | refine qK ?_ | refine qE ?_ | refine qW ?_ | refine qM ?_); try simp -dsimp (maxSteps := 2000000) (disch := first | omega | (simp only [qZ] <;> omega) | fail) only [push_cast, ↓qP, ↓reduceIte, Nat.reduceEqDiff, Nat.reduceAdd, Nat.reduceMul, Nat.reduceSub, Nat.reduceLeDiff, Int.reduceToNat, reduceCtorEq, f1, f3, f13, f7, hp4.rdc, c3, c0]) | (refine qA ?_ ?_; (first | omega | (simp only [qL]; omega) | (simp only [qD] at *; omega))))
        exact Mid.mk ⟨b2, c2, by simp [upd, f7], by rw [← hst1]; exact hb2.Kp (k2.trans (k3.trans k4)), k1.trans (k2.trans (k3.trans k4))⟩
      · rw [if_neg hst2] at hst1
        have c3 : decide (orB out (ends3 l k0 out) = out) = false := decide_eq_false hst2
        have hcnt2 := cnt_lt (a := out) (b := orB out (ends3 l k0 out)) (by rw [orB_len (by omega)]) (fun j hj => (In_orB (by omega) j).2 (.inl hj)) (Ne.symm hst2)
        have hb5 := (blk_bs hb4).Kp k4
        refine Sm.out ?_
        repeat (first | refine qS ?_ | refine qB ?_ | refine qT rfl ?_ | refine qF rfl ?_ | ((first | refine qR rfl ?_ | refine qK ?_ | refine qE ?_ | refine qW ?_ | refine qM ?_); try simp -dsimp (maxSteps := 2000000) (disch := first | omega | (simp only [qZ] <;> omega) | fail) only [push_cast, ↓qP, ↓reduceIte, Nat.reduceEqDiff, Nat.reduceAdd, Nat.reduceMul, Nat.reduceSub, Nat.reduceLeDiff, Int.reduceToNat, reduceCtorEq, f1, f3, f13, f7, hp4.rdc, c3, c0]) | (refine qA ?_ ?_; (first | omega | (simp only [qL]; omega) | (simp only [qD] at *; omega))))
        exact Again.mk m ⟨by simp [upd, f1], by simp [upd, f3], hp4, k1.trans (k2.trans (k3.trans k4)), k + 1, _, W2.heap.size, l.length + 1, W2.heap.size, l.length + 1, by simp [upd], by omega, by simp [upd], by simp [upd], hb5, hb5, hlen4, by omega, ⟨hst1⟩⟩ (by omega)
    · rw [if_neg hneg] at hres
      rw [hres]
      obtain ⟨R, hR⟩ : ∃ R, R = boundE (ends3 l k0) (hi - j).toNat x0 x0 := ⟨_, rfl⟩
      rw [← hR]
      clear hres
      have hhi : (j : Int) ≤ hi := by omega
      refine Wp.loop (α := Nat) (fun m F W => F 1 = .string (B l) ∧ F 3 = .pointer (some ⟨p, 0, none⟩) ∧ Blk W p 33 [.string (B op), .string (B set), .slice (some ⟨kb, o, none⟩) 1 cc, .int .i64 j, .int .i64 hi] ∧ Kp (fun _ => False) w W ∧ ∃ ab out b1 c1 b2 c2, F 13 = .int .i64 (hi - (m : Int)) ∧ m ≤ (hi - j).toNat ∧ F 11 = .slice (some ⟨b1, 0, none⟩) (l.length + 1) c1 ∧ F 7 = .slice (some ⟨b2, 0, none⟩) (l.length + 1) c2 ∧ Bs W b1 ab ∧ Bs W b2 out ∧ ab.length = l.length + 1 ∧ out.length = l.length + 1 ∧ Hide (boundE (ends3 l k0) m ab out = R)) (fun m => m) (hi - j).toNat
        ⟨by simp [upd, f1], by simp [upd, f3], hp1, k1, x0, x0, b, c, b, c, by simp [upd]; omega, Nat.le_refl _, by simp [upd, f11], by simp [upd, f11], hb, hb, hlen, hlen, ⟨hR.symm⟩⟩ ?_
      clear hp1 k1 hb f1 f3 f12 f11 hltp q0 q1 q2 q3 q4 hre
      rintro m F W ⟨f1, f3, hp1, k1, ab, out, b1, c1, b2, c2, f13, hkm, f11, f7, hb1, hb2, hal, hol, hst⟩
      have hltp := hp1.lt
      rcases Nat.eq_zero_or_pos m with hm | hm
      · subst hm
        have hst1 := hst.out
        simp only [boundE] at hst1
        have c1' : ((hi - 0) != hi) = false := by simp
        repeat (first | refine qS ?_ | refine qB ?_ | refine qT rfl ?_ | refine qF rfl ?_ | ((first | refine qR rfl ?_ | refine qK ?_ | refine qE ?_ | refine qW ?_ | refine qM ?_); try simp -dsimp (maxSteps := 2000000) (disch := first | omega | (simp only [qZ] <;> omega) | fail) only [push_cast, ↓qP, ↓reduceIte, Nat.reduceEqDiff, Nat.reduceAdd, Nat.reduceMul, Nat.reduceSub, Nat.reduceLeDiff, Int.reduceToNat, reduceCtorEq, f1, f3, f13, hp1.rdc, c1']) | (refine qA ?_ ?_; (first | omega | (simp only [qL]; omega) | (simp only [qD] at *; omega))))
        exact Mid.mk ⟨b2, c2, by simp [upd, f7], by rw [← hst1]; exact hb2, k1⟩
      obtain ⟨m, rfl⟩ : ∃ m', m = m' + 1 := ⟨m - 1, by omega⟩
      obtain ⟨kb', o', d0, d1, A1, m1, d2, lo1, hi1, hA, hbl, hD', q0, q1, q2, q3, q4, hre, _⟩ := h.kid k1 hget
      injection hA with hA
      injection hA with hA1 hA2
      subst hA1; subst hA2
      simp only [Nat.zero_mul, Nat.add_zero] at q0 q1 q2 q3 q4
      generalize hkk : hi - ((m + 1 : Nat) : Int) = kk at *
      have c1' : (kk != hi) = true := by simp; omega
      have c2' : decide (hi < 0) = false := decide_eq_false hneg
      have hlen3 := ends3_len l _ hgk0 ab hal
      repeat (first | refine qS ?_ | refine qB ?_ | refine qT rfl ?_ | refine qF rfl ?_ | ((first | refine qR rfl ?_ | refine qK ?_ | refine qE ?_ | refine qW ?_ | refine qM ?_); try simp -dsimp (maxSteps := 2000000) (disch := first | omega | (simp only [qZ] <;> omega) | fail) only [push_cast, ↓qP, ↓reduceIte, Nat.reduceEqDiff, Nat.reduceAdd, Nat.reduceMul, Nat.reduceSub, Nat.reduceLeDiff, Int.reduceToNat, reduceCtorEq, f1, f3, f13, f11, hp1.rdc, c1', q0, q1, q2, q3, q4]) | (refine qA ?_ ?_; (first | omega | (simp only [qL]; omega) | (simp only [qD] at *; omega))))
      refine CallV.of isCall_62 (ih _ hmem hgj (by omega) W _ b1 c1 _ hre hal hb1) ?_
      rintro _ W2 ⟨b3, cap3, rfl, hb3, k2⟩
      have hboth := both_any (c := c2) (d := cap3) (hb2.Kp k2) hb3 (by omega) (by omega)
      rw [hol, hlen3] at hboth
      refine Sm.out ?_
      repeat (first | refine qS ?_ | refine qB ?_ | refine qT rfl ?_ | refine qF rfl ?_ | ((first | refine qR rfl ?_ | refine qK ?_ | refine qE ?_ | refine qW ?_ | refine qM ?_); try simp -dsimp (maxSteps := 2000000) (disch := first | omega | (simp only [qZ] <;> omega) | fail) only [push_cast, ↓qP, ↓reduceIte, Nat.reduceEqDiff, Nat.reduceAdd, Nat.reduceMul, Nat.reduceSub, Nat.reduceLeDiff, Int.reduceToNat, reduceCtorEq, f1, f3, f13, f7]) | (refine qA ?_ ?_; (first | omega | (simp only [qL]; omega) | (simp only [qD] at *; omega))))
      refine CallV.of isCall_78 hboth ?_
      rintro _ W3 ⟨rfl, hb4, k3⟩
      have hlen4 : (orB out (ends3 l k0 ab)).length = l.length + 1 := by rw [orB_len (by omega)]; exact hol
      have hp3 := (k2.trans k3).Blk hp1 id
      have hltp3 := hp3.lt
      have hst1 := hst.out
      simp only [boundE] at hst1
      refine Sm.out ?_
      repeat (first | refine qS ?_ | refine qB ?_ | refine qT rfl ?_ | refine qF rfl ?_ | ((first | refine qR rfl ?_ | refine qK ?_ | refine qE ?_ | refine qW ?_ | refine qM ?_); try simp -dsimp (maxSteps := 2000000) (disch := first | omega | (simp only [qZ] <;> omega) | fail) only [push_cast, ↓qP, ↓reduceIte, Nat.reduceEqDiff, Nat.reduceAdd, Nat.reduceMul, Nat.reduceSub, Nat.reduceLeDiff, Int.reduceToNat, reduceCtorEq, f1, f3, f13, f7, hp3.rdc, c2']) | (refine qA ?_ ?_; (first | omega | (simp only [qL]; omega) | (simp only [qD] at *; omega))))
      exact Again.mk m ⟨by simp [upd, f1], by simp [upd, f3], hp3, k1.trans (k2.trans k3), _, _, b3, cap3, W2.heap.size, l.length + 1, by simp [upd]; omega, by omega, by simp [upd], by simp [upd], hb3.Kp k3, blk_bs hb4, hlen3, hlen4, ⟨hst1⟩⟩ (by omega)
  exfalso
  simp only [Good] at hg
  rcases hg with ⟨h, _⟩ | ⟨h, _⟩ | ⟨h, _⟩ | ⟨h, _⟩ | ⟨h, _⟩ | ⟨h, _⟩ <;> contradiction
end
end Go.Proofs.Ytddichibegppjaa

/- The reference's matcher: Find, Whole. -/
namespace Go.Proofs.Ytddichibegppjaa
open Go Go.VC

/-- The last place of a set below one, from another on. -/
def scan (x : List Bool) (i : Nat) : Nat → Option Nat
  | 0 => none
  | k + 1 => if k < i then none else if x.getD k false = true then some k else scan x i k
def find3 (e : Re) (l : List UInt8) : Nat → Nat → Option (Nat × Nat)
  | 0, _ => none
  | f + 1, i => match scan (ends3 l e ((noP l).set i true)) i (l.length + 1) with
    | some j => some (i, j - i)
    | none => find3 e l f (i + 1)
def trip (r : Option (Nat × Nat)) : Value := match r with | some (i, n) => .tuple #[.int .i64 (i : Int), .int .i64 (n : Int), .bool true] | none => .tuple #[.int .i64 0, .int .i64 0, .bool false]
def findI (e : Re) (l : List UInt8) (i : Int) : Option (Nat × Nat) := if i < 0 then none else find3 e l (l.length + 1 - i.toNat) i.toNat

section
variable {D : Nat → Prop} {l : List UInt8} {e : Re} {w : World} {cs : List Value}

theorem find3_any (hl : l.length ≤ 1000000) (hg : Good e) (hwt : wt e ≤ 1000000000) (h : IsRe w D e cs) (i : Int) (hi : -9223372036854775808 ≤ i ∧ i ≤ 9223372036854775807) :
    Calls Try.prog 29 #[.agg cs.toArray, .string (B l), .int .i64 i] w fun e' w' => e' = .returned (trip (findI e l i)) ∧ Kp (fun _ => False) w w' := by
  obtain ⟨o, se, A, m, c, lo, hi', rfl⟩ := h.form
  refine enter (n := 48) (args := [.agg #[.string (B o), .string (B se), .slice A m c, .int .i64 lo, .int .i64 hi'], .string (B l), .int .i64 i]) Try.func29 rfl rfl rfl (by simp) ?_
  rcases Bool.eq_false_or_eq_true (decide (i < 0)) with c0 | c0
  · have : findI e l i = none := by unfold findI; rw [if_pos (by simpa using c0)]
    rw [this]
    repeat (first | refine qS ?_ | refine qB ?_ | refine qT rfl ?_ | refine qF rfl ?_ | ((first | refine qR rfl ?_ | refine qK ?_ | refine qE ?_ | refine qW ?_ | refine qM ?_); try simp -dsimp (maxSteps := 2000000) (disch := first | omega | (simp only [qZ] <;> omega) | fail) only [push_cast, ↓qP, ↓reduceIte, Nat.reduceEqDiff, Nat.reduceAdd, Nat.reduceMul, Nat.reduceSub, Nat.reduceLeDiff, Int.reduceToNat, reduceCtorEq, c0]) | (refine qA ?_ ?_; (first | omega | (simp only [qL]; omega) | (simp only [qD] at *; omega))))
    exact Ret.mk ⟨rfl, (Kp.refl _ w).alloc _⟩
  obtain ⟨n, rfl⟩ : ∃ n : Nat, i = n := ⟨i.toNat, by simp at c0; omega⟩
  have hfi : findI e l n = find3 e l (l.length + 1 - n) n := by unfold findI; rw [if_neg (by omega), Int.toNat_natCast]
  rw [hfi]
  obtain ⟨R, hR⟩ : ∃ R, find3 e l (l.length + 1 - n) n = R := ⟨_, rfl⟩
  rw [hR]
  obtain ⟨p, hp⟩ : ∃ p, p = w.heap.size := ⟨_, rfl⟩
  repeat (first | refine qS ?_ | refine qB ?_ | refine qT rfl ?_ | refine qF rfl ?_ | ((first | refine qR rfl ?_ | refine qK ?_ | refine qE ?_ | refine qW ?_ | refine qM ?_); try simp -dsimp (maxSteps := 2000000) (disch := first | omega | (simp only [qZ] <;> omega) | fail) only [push_cast, ↓qP, ↓reduceIte, Nat.reduceEqDiff, Nat.reduceAdd, Nat.reduceMul, Nat.reduceSub, Nat.reduceLeDiff, Int.reduceToNat, reduceCtorEq, c0]) | (refine qA ?_ ?_; (first | omega | (simp only [qL]; omega) | (simp only [qD] at *; omega))))
  refine Wp.loop (α := Nat) (fun f F W => ∃ i : Nat, F 1 = .string (B l) ∧ F 3 = .pointer (some ⟨p, 0, none⟩) ∧ F 9 = .int .i64 i ∧ f = l.length + 1 - i ∧ Kp (fun _ => False) w W ∧ Blk W p 33 [.string (B o), .string (B se), .slice A m c, .int .i64 lo, .int .i64 hi'] ∧ Hide (find3 e l f i = R)) (fun f => f) (l.length + 1 - n)
    ⟨n, by simp [upd, arg], by simp [upd, hp], by simp [upd, arg], rfl, (Kp.refl _ w).alloc _, by rw [hp]; exact Blk.new w 33 [.string (B o), .string (B se), .slice A m c, .int .i64 lo, .int .i64 hi'], ⟨hR⟩⟩ ?_
  clear c0 hfi hR hi
  rintro f F W ⟨i, f1, f3, f9, hf, k1, hp1, hst⟩
  rcases Nat.lt_or_ge l.length i with hgt | hle
  · have c1 : decide ((i : Int) ≤ (l.length : Int)) = false := decide_eq_false (by omega)
    obtain rfl : f = 0 := by omega
    have hst1 := hst.out
    simp only [find3] at hst1
    repeat (first | refine qS ?_ | refine qB ?_ | refine qT rfl ?_ | refine qF rfl ?_ | ((first | refine qR rfl ?_ | refine qK ?_ | refine qE ?_ | refine qW ?_ | refine qM ?_); try simp -dsimp (maxSteps := 2000000) (disch := first | omega | (simp only [qZ] <;> omega) | fail) only [push_cast, ↓qP, ↓reduceIte, Nat.reduceEqDiff, Nat.reduceAdd, Nat.reduceMul, Nat.reduceSub, Nat.reduceLeDiff, Int.reduceToNat, reduceCtorEq, f1, f3, f9, c1]) | (refine qA ?_ ?_; (first | omega | (simp only [qL]; omega) | (simp only [qD] at *; omega))))
    exact Ret.mk ⟨by rw [← hst1]; rfl, k1⟩
  have c1 : decide ((i : Int) ≤ (l.length : Int)) = true := decide_eq_true (by omega)
  obtain ⟨f, rfl⟩ : ∃ f', f = f' + 1 := ⟨f - 1, by omega⟩
  have hst1 := hst.out
  simp only [find3] at hst1
  have hltp := hp1.lt
  have hset0 := Blk.new W 4 (zeros [.bool false] (l.length + 1))
  have hz : zeros [.bool false] (l.length + 1) = bools (noP l) := by simp [zeros_one, bools, noP]
  rw [hz] at hset0
  have hNl : (noP l).length = l.length + 1 := by simp [noP]
  have hcell : (zeros [.bool false] (l.length + 1))[i]? = some (.bool ((noP l).getD i false)) := by rw [hz]; exact bools_get _ _ (by omega)
  have hln : ((l.length : Int) + 1).toNat = l.length + 1 := by omega
  refine Sm.out ?_
  repeat (first | ((fail_if_success (first | refine qY (n := 8) ?_ | refine qV (n := 8) ?_)); refine qS ?_) | refine qB ?_ | refine qT rfl ?_ | refine qF rfl ?_ | ((first | refine qR rfl ?_ | refine qK ?_ | refine qE ?_ | refine qW ?_ | refine qM ?_); try simp -dsimp (maxSteps := 2000000) (disch := first | omega | (simp only [qZ] <;> omega) | fail) only [push_cast, ↓qP, ↓reduceIte, Nat.reduceEqDiff, Nat.reduceAdd, Nat.reduceMul, Nat.reduceSub, Nat.reduceLeDiff, Int.reduceToNat, reduceCtorEq, f1, f3, f9, c1, hln, hcell]) | (refine qA ?_ ?_; (first | omega | (simp only [qL]; omega) | (simp only [qD] at *; omega))))
  refine Wp.gen (A := fun W2 => Kp (fun _ => False) W W2 ∧ Blk W2 W.heap.size 4 (bools ((noP l).set i true))) ⟨((Kp.refl _ W).alloc _).setCell (p := ⟨W.heap.size, i, none⟩) (fun h => absurd h (Nat.lt_irrefl _)) _, ?_⟩ ?_
  · have := hset0.set i (.bool true)
    rw [bools_set, ← hz] at this
    exact this
  rintro W2 ⟨k2, hq2⟩
  have hp2 := k2.Blk hp1 id
  have hltp2 := hp2.lt
  have hre2 := h.Kp (D' := D) (k1.trans k2) (fun _ _ => id) (fun _ h => h)
  have hNs : ((noP l).set i true).length = l.length + 1 := by simp [noP]
  repeat (first | refine qS ?_ | refine qB ?_ | refine qT rfl ?_ | refine qF rfl ?_ | ((first | refine qR rfl ?_ | refine qK ?_ | refine qE ?_ | refine qW ?_ | refine qM ?_); try simp -dsimp (maxSteps := 2000000) (disch := first | omega | (simp only [qZ] <;> omega) | fail) only [push_cast, ↓qP, ↓reduceIte, Nat.reduceEqDiff, Nat.reduceAdd, Nat.reduceMul, Nat.reduceSub, Nat.reduceLeDiff, Int.reduceToNat, reduceCtorEq, f1, f3, f9, hp2.rdc]) | (refine qA ?_ ?_; (first | omega | (simp only [qL]; omega) | (simp only [qD] at *; omega))))
  refine CallV.of isCall_62 (ends3_any hl e hg hwt W2 _ W.heap.size (l.length + 1) _ hre2 hNs (blk_bs hq2)) ?_
  rintro _ W3 ⟨b, c2, rfl, hb, k3⟩
  have hlen := ends3_len l e hg _ hNs
  generalize ends3 l e ((noP l).set i true) = x at *
  clear hcell hset0 hz hq2 hp2 hre2 hltp hltp2
  refine Sm.out ?_
  repeat (first | refine qS ?_ | refine qB ?_ | refine qT rfl ?_ | refine qF rfl ?_ | ((first | refine qR rfl ?_ | refine qK ?_ | refine qE ?_ | refine qW ?_ | refine qM ?_); try simp -dsimp (maxSteps := 2000000) (disch := first | omega | (simp only [qZ] <;> omega) | fail) only [push_cast, ↓qP, ↓reduceIte, Nat.reduceEqDiff, Nat.reduceAdd, Nat.reduceMul, Nat.reduceSub, Nat.reduceLeDiff, Int.reduceToNat, reduceCtorEq, f1, f3, f9]) | (refine qA ?_ ?_; (first | omega | (simp only [qL]; omega) | (simp only [qD] at *; omega))))
  obtain ⟨S, hS⟩ : ∃ S, scan x i (l.length + 1) = S := ⟨_, rfl⟩
  rw [hS] at hst1
  refine Wp.loop (α := Nat) (fun k F W4 => F 1 = .string (B l) ∧ F 3 = .pointer (some ⟨p, 0, none⟩) ∧ F 9 = .int .i64 i ∧ F 11 = .slice (some ⟨b, 0, none⟩) (l.length + 1) c2 ∧ F 12 = .int .i64 ((k : Int) - 1) ∧ k ≤ l.length + 1 ∧ W3 = W4 ∧ Hide (scan x i k = S)) (fun k => k) (l.length + 1)
    ⟨by simp [upd, f1], by simp [upd, f3], by simp [upd, f9], by simp [upd], by simp [upd], Nat.le_refl _, rfl, ⟨hS⟩⟩ ?_
  have hp3 := (k2.trans k3).Blk hp1 id
  have hbl := hb.1
  clear f1 f3 f9
  rintro k F _ ⟨f1, f3, f9, f11, f12, hk, rfl, hsc⟩
  rcases Nat.lt_or_ge i k with hik | hik
  · obtain ⟨k, rfl⟩ : ∃ k', k = k' + 1 := ⟨k - 1, by omega⟩
    have hkk : (((k + 1 : Nat) : Int) - 1) = k := by omega
    rw [hkk] at f12
    have c3 : decide ((k : Int) ≥ (i : Int)) = true := decide_eq_true (by omega)
    have r1 := hb.2 k (by omega)
    have hsc1 := hsc.out
    simp only [scan] at hsc1
    rw [if_neg (by omega)] at hsc1
    rcases Bool.eq_false_or_eq_true (x.getD k false) with c4 | c4
    · rw [c4] at r1 hsc1
      rw [if_pos rfl] at hsc1
      rw [← hsc1] at hst1
      repeat (first | refine qS ?_ | refine qB ?_ | refine qT rfl ?_ | refine qF rfl ?_ | ((first | refine qR rfl ?_ | refine qK ?_ | refine qE ?_ | refine qW ?_ | refine qM ?_); try simp -dsimp (maxSteps := 2000000) (disch := first | omega | (simp only [qZ] <;> omega) | fail) only [push_cast, ↓qP, ↓reduceIte, Nat.reduceEqDiff, Nat.reduceAdd, Nat.reduceMul, Nat.reduceSub, Nat.reduceLeDiff, Int.reduceToNat, reduceCtorEq, f1, f3, f9, f11, f12, c3, r1]) | (refine qA ?_ ?_; (first | omega | (simp only [qL]; omega) | (simp only [qD] at *; omega))))
      refine Ret.mk ⟨?_, k1.trans (k2.trans k3)⟩
      rw [← hst1]
      simp only [trip]
      rw [show ((k - i : Nat) : Int) = (k : Int) - i by omega]
    · rw [c4] at r1 hsc1
      rw [if_neg (by simp)] at hsc1
      repeat (first | refine qS ?_ | refine qB ?_ | refine qT rfl ?_ | refine qF rfl ?_ | ((first | refine qR rfl ?_ | refine qK ?_ | refine qE ?_ | refine qW ?_ | refine qM ?_); try simp -dsimp (maxSteps := 2000000) (disch := first | omega | (simp only [qZ] <;> omega) | fail) only [push_cast, ↓qP, ↓reduceIte, Nat.reduceEqDiff, Nat.reduceAdd, Nat.reduceMul, Nat.reduceSub, Nat.reduceLeDiff, Int.reduceToNat, reduceCtorEq, f1, f3, f9, f11, f12, c3, r1]) | (refine qA ?_ ?_; (first | omega | (simp only [qL]; omega) | (simp only [qD] at *; omega))))
      exact Again.mk k ⟨by simp [upd, f1], by simp [upd, f3], by simp [upd, f9], by simp [upd, f11], by simp [upd], by omega, rfl, ⟨hsc1⟩⟩ (by omega)
  · have c3 : decide ((k : Int) - 1 ≥ (i : Int)) = false := decide_eq_false (by omega)
    have hsc1 : scan x i k = none := by
      cases k with
      | zero => rfl
      | succ k => simp only [scan]; rw [if_pos (by omega)]
    rw [hsc.out] at hsc1
    rw [hsc1] at hst1
    repeat (first | refine qS ?_ | refine qB ?_ | refine qT rfl ?_ | refine qF rfl ?_ | ((first | refine qR rfl ?_ | refine qK ?_ | refine qE ?_ | refine qW ?_ | refine qM ?_); try simp -dsimp (maxSteps := 2000000) (disch := first | omega | (simp only [qZ] <;> omega) | fail) only [push_cast, ↓qP, ↓reduceIte, Nat.reduceEqDiff, Nat.reduceAdd, Nat.reduceMul, Nat.reduceSub, Nat.reduceLeDiff, Int.reduceToNat, reduceCtorEq, f1, f3, f9, f11, f12, c3]) | (refine qA ?_ ?_; (first | omega | (simp only [qL]; omega) | (simp only [qD] at *; omega))))
    exact Again.mk f ⟨i + 1, by simp [upd, f1], by simp [upd, f3], by simp [upd], by omega, k1.trans (k2.trans k3), hp3, ⟨hst1⟩⟩ (by omega)

def whole3 (e : Re) (l : List UInt8) : Bool := (ends3 l e ((noP l).set 0 true)).getD l.length false

theorem whole3_any (hl : l.length ≤ 1000000) (hg : Good e) (hwt : wt e ≤ 1000000000) (h : IsRe w D e cs) :
    Calls Try.prog 31 #[.agg cs.toArray, .string (B l)] w fun e' w' => e' = .returned (.bool (whole3 e l)) ∧ Kp (fun _ => False) w w' := by
  obtain ⟨o, se, A, m, c, lo, hi', rfl⟩ := h.form
  refine enter (n := 20) (args := [.agg #[.string (B o), .string (B se), .slice A m c, .int .i64 lo, .int .i64 hi'], .string (B l)]) Try.func31 rfl rfl rfl (by simp) ?_
  have hz : zeros [.bool false] (l.length + 1) = bools (noP l) := by simp [zeros_one, bools, noP]
  have hNl : (noP l).length = l.length + 1 := by simp [noP]
  have hset0 := Blk.new (w.alloc (.cells (List.toArray [.string (B o), .string (B se), .slice A m c, .int .i64 lo, .int .i64 hi']) 33)) 4 (zeros [.bool false] (l.length + 1))
  have hcell : (zeros [.bool false] (l.length + 1))[0]? = some (.bool ((noP l).getD 0 false)) := by rw [hz]; exact bools_get _ _ (by omega)
  have hln : ((l.length : Int) + 1).toNat = l.length + 1 := by omega
  refine Sm.out ?_
  repeat (first | ((fail_if_success (first | refine qY (n := 3) ?_ | refine qV (n := 3) ?_)); refine qS ?_) | refine qB ?_ | refine qT rfl ?_ | refine qF rfl ?_ | ((first | refine qR rfl ?_ | refine qK ?_ | refine qE ?_ | refine qW ?_ | refine qM ?_); try simp -dsimp (maxSteps := 2000000) (disch := first | omega | (simp only [qZ] <;> omega) | fail) only [push_cast, ↓qP, ↓reduceIte, Nat.reduceEqDiff, Nat.reduceAdd, Nat.reduceMul, Nat.reduceSub, Nat.reduceLeDiff, Int.reduceToNat, reduceCtorEq, hcell, hln]) | (refine qA ?_ ?_; (first | omega | (simp only [qL]; omega) | (simp only [qD] at *; omega))))
  refine Wp.gen (A := fun W2 => Kp (fun _ => False) w W2 ∧ Blk W2 w.heap.size 33 [.string (B o), .string (B se), .slice A m c, .int .i64 lo, .int .i64 hi'] ∧ Blk W2 (w.heap.size + 1) 4 (bools ((noP l).set 0 true))) ⟨(((Kp.refl _ w).alloc _).alloc _).setCell (p := ⟨w.heap.size + 1, 0, none⟩) (fun h => absurd h (Nat.not_lt.2 (Nat.le_succ _))) _, ((Blk.new w 33 [.string (B o), .string (B se), .slice A m c, .int .i64 lo, .int .i64 hi']).alloc _).far (p := ⟨w.heap.size + 1, 0, none⟩) (Nat.ne_of_lt (Nat.lt_succ_self _)) _, ?_⟩ ?_
  · rw [World.size_alloc, hz] at hset0
    have := hset0.set 0 (.bool true)
    rw [bools_set, ← hz] at this
    exact this
  rintro W2 ⟨k2, hp2, hq2⟩
  have hltp2 := hp2.lt
  have hre2 := h.Kp (D' := D) k2 (fun _ _ => id) (fun _ h => h)
  have hNs : ((noP l).set 0 true).length = l.length + 1 := by simp [noP]
  repeat (first | refine qS ?_ | refine qB ?_ | refine qT rfl ?_ | refine qF rfl ?_ | ((first | refine qR rfl ?_ | refine qK ?_ | refine qE ?_ | refine qW ?_ | refine qM ?_); try simp -dsimp (maxSteps := 2000000) (disch := first | omega | (simp only [qZ] <;> omega) | fail) only [push_cast, ↓qP, ↓reduceIte, Nat.reduceEqDiff, Nat.reduceAdd, Nat.reduceMul, Nat.reduceSub, Nat.reduceLeDiff, Int.reduceToNat, reduceCtorEq, hp2.rdc]) | (refine qA ?_ ?_; (first | omega | (simp only [qL]; omega) | (simp only [qD] at *; omega))))
  refine CallV.of isCall_62 (ends3_any hl e hg hwt W2 _ (w.heap.size + 1) (l.length + 1) _ hre2 hNs (blk_bs hq2)) ?_
  rintro _ W3 ⟨b, c2, rfl, hb, k3⟩
  have hlen := ends3_len l e hg _ hNs
  have r1 := hb.2 l.length (by omega)
  refine Sm.out ?_
  repeat (first | refine qS ?_ | refine qB ?_ | refine qT rfl ?_ | refine qF rfl ?_ | ((first | refine qR rfl ?_ | refine qK ?_ | refine qE ?_ | refine qW ?_ | refine qM ?_); try simp -dsimp (maxSteps := 2000000) (disch := first | omega | (simp only [qZ] <;> omega) | fail) only [push_cast, ↓qP, ↓reduceIte, Nat.reduceEqDiff, Nat.reduceAdd, Nat.reduceMul, Nat.reduceSub, Nat.reduceLeDiff, Int.reduceToNat, reduceCtorEq, r1]) | (refine qA ?_ ?_; (first | omega | (simp only [qL]; omega) | (simp only [qD] at *; omega))))
  exact Ret.mk ⟨rfl, k2.trans k3⟩
end
end Go.Proofs.Ytddichibegppjaa

/- The machine's maker: right. -/
namespace Go.Proofs.Ytddichibegppjaa
open Go Go.VC

theorem sizes3_append (b : List Re) : ∀ (a : List Re) (n : Int), sizes3 (a ++ b) n = sizes3 b (sizes3 a n)
  | [], n => rfl
  | k :: a, n => by simp only [List.cons_append, sizes3]; exact sizes3_append b a _
theorem sizes3_ge {ks : List Re} (hk : ∀ k ∈ ks, 0 ≤ size3 k) : ∀ n, n ≤ 2001 → n ≤ sizes3 ks n := by
  induction ks with
  | nil => intro n h; simp only [sizes3]; omega
  | cons k ks ih =>
    intro n h
    have h1 := hk k (by simp)
    have h2 := ih (fun k h => hk k (by simp [h])) (min (n + size3 k) 2001) (by omega)
    simp only [sizes3]
    omega
theorem Good.kid_size {op set : List UInt8} {kids : List Re} {lo hi : Int} (h : Good (.node op set kids lo hi)) : ∀ k ∈ kids, 0 ≤ size3 k := fun k hk => (size3_bound k (Goods_mem h.kids hk)).1
theorem sizes3_fit {op set : List UInt8} {kids : List Re} {lo hi : Int} (h : Good (.node op set kids lo hi)) (hs : size3 (.node op set kids lo hi) ≤ 2000) : 0 ≤ sizes3 kids 0 ∧ sizes3 kids 0 ≤ 2000 := by
  have hb := sizes3_bound (ks := kids) (fun k hk => size3_bound k (Goods_mem h.kids hk)) 0 (by omega) (by omega)
  refine ⟨hb.1, ?_⟩
  obtain ⟨n1, n2, n3, n4, n5, n6, n7, n8, n9, n10, n11, n12, n13, n14, n15⟩ := op_ne
  have hg := h
  simp only [Good] at h
  rcases h with ⟨_, h, _⟩ | ⟨_, h⟩ | ⟨_, h⟩ | ⟨rfl, h⟩ | ⟨rfl, h⟩ | ⟨rfl, h⟩
  · subst h; simp [sizes3]
  · subst h; simp [sizes3]
  · subst h; simp [sizes3]
  · simp only [size3, Ne.symm n3, Ne.symm n7, Ne.symm n10, n13, n14, if_false] at hs
    omega
  · simp only [size3, Ne.symm n4, Ne.symm n8, Ne.symm n11, if_false, if_true] at hs
    omega
  · obtain ⟨b1, b2, b3, b4, b5, b6⟩ := hg.bounds rfl
    simp only [size3, Ne.symm n5, Ne.symm n9, Ne.symm n12, Ne.symm n15, if_false, if_true] at hs
    have : sizes3 kids 0 ≤ sizes3 kids 0 * (if hi < 0 then lo + 1 else max 1 hi) := by
      have h1 : (1 : Int) ≤ (if hi < 0 then lo + 1 else max 1 hi) := by split <;> omega
      have := Int.mul_le_mul_of_nonneg_left h1 hb.1
      omega
    omega
/-- Up to a kid, where all is small. -/
theorem sizes3_kid {op set : List UInt8} {kids : List Re} {lo hi : Int} (h : Good (.node op set kids lo hi)) (hs : size3 (.node op set kids lo hi) ≤ 2000) {j : Nat} (hj : j < kids.length) :
    0 ≤ sizes3 (kids.take j) 0 ∧ sizes3 (kids.take (j + 1)) 0 = sizes3 (kids.take j) 0 + size3 kids[j] ∧ sizes3 (kids.take (j + 1)) 0 ≤ 2000 ∧ 0 ≤ size3 kids[j] ∧ size3 kids[j] ≤ 2000 := by
  have hf := sizes3_fit h hs
  have hk := h.kid_size
  have h1 : sizes3 (kids.take (j + 1)) 0 ≤ sizes3 kids 0 := by
    have e : kids = kids.take (j + 1) ++ kids.drop (j + 1) := (List.take_append_drop _ _).symm
    have hb := sizes3_bound (ks := kids.take (j + 1)) (fun k hk => size3_bound k (Goods_mem h.kids (List.mem_of_mem_take hk))) 0 (by omega) (by omega)
    conv => rhs; rw [e, sizes3_append]
    exact sizes3_ge (fun k hk' => hk k (List.mem_of_mem_drop hk')) _ hb.2
  have hb := sizes3_bound (ks := kids.take j) (fun k hk => size3_bound k (Goods_mem h.kids (List.mem_of_mem_take hk))) 0 (by omega) (by omega)
  have h2 : sizes3 (kids.take (j + 1)) 0 = min (sizes3 (kids.take j) 0 + size3 kids[j]) 2001 := by rw [List.take_succ_eq_append_getElem hj, sizes3_snoc]
  have h3 := hk kids[j] (List.getElem_mem hj)
  omega

theorem ops_set : (opSet == [115, 101, 116]) = true ∧ (opSet == [98, 111, 108]) = false ∧ (opSet == [101, 111, 108]) = false ∧ (opSet == [97, 108, 116]) = false ∧ (opSet == [114, 101, 112]) = false ∧ (opSet == [99, 97, 116]) = false := by decide
theorem ops_bol : (opBol == [115, 101, 116]) = false ∧ (opBol == [98, 111, 108]) = true ∧ (opBol == [101, 111, 108]) = false ∧ (opBol == [97, 108, 116]) = false ∧ (opBol == [114, 101, 112]) = false ∧ (opBol == [99, 97, 116]) = false := by decide
theorem ops_eol : (opEol == [115, 101, 116]) = false ∧ (opEol == [98, 111, 108]) = false ∧ (opEol == [101, 111, 108]) = true ∧ (opEol == [97, 108, 116]) = false ∧ (opEol == [114, 101, 112]) = false ∧ (opEol == [99, 97, 116]) = false := by decide
theorem ops_alt : (opAlt == [115, 101, 116]) = false ∧ (opAlt == [98, 111, 108]) = false ∧ (opAlt == [101, 111, 108]) = false ∧ (opAlt == [97, 108, 116]) = true ∧ (opAlt == [114, 101, 112]) = false ∧ (opAlt == [99, 97, 116]) = false := by decide
theorem ops_rep : (opRep == [115, 101, 116]) = false ∧ (opRep == [98, 111, 108]) = false ∧ (opRep == [101, 111, 108]) = false ∧ (opRep == [97, 108, 116]) = false ∧ (opRep == [114, 101, 112]) = true ∧ (opRep == [99, 97, 116]) = false := by decide
theorem ops_cat : (opCat == [115, 101, 116]) = false ∧ (opCat == [98, 111, 108]) = false ∧ (opCat == [101, 111, 108]) = false ∧ (opCat == [97, 108, 116]) = false ∧ (opCat == [114, 101, 112]) = false ∧ (opCat == [99, 97, 116]) = true := by decide
theorem lf_set : (decide (opSet = opSet) || decide (opSet = opBol) || decide (opSet = opEol)) = true := by decide
theorem lf_bol : (decide (opBol = opSet) || decide (opBol = opBol) || decide (opBol = opEol)) = true := by decide
theorem lf_eol : (decide (opEol = opSet) || decide (opEol = opBol) || decide (opEol = opEol)) = true := by decide
theorem lf_cat : (decide (opCat = opSet) || decide (opCat = opBol) || decide (opCat = opEol)) = false := by decide
theorem lf_alt : (decide (opAlt = opSet) || decide (opAlt = opBol) || decide (opAlt = opEol)) = false := by decide
theorem lf_rep : (decide (opRep = opSet) || decide (opRep = opBol) || decide (opRep = opEol)) = false := by decide

section
variable {w : World} {D : Nat → Prop}

theorem right_any : ∀ e : Re, Good e → size3 e ≤ 2000 → ∀ (w : World) (cs : List Value) (deep : Nat), deep + wt e ≤ 2001 → IsRe w D e cs → Calls Try.prog 57 #[.agg cs.toArray, .int .i64 deep] w fun e' w' => e' = .returned (.tuple #[.int .i64 (size3 e), .bool true]) ∧ Kp (fun _ => False) w w' := by
  refine Re.ind fun op set kids lo hi ih hg hsz w cs deep hwt h => ?_
  obtain ⟨A, c, rfl⟩ := h.cells
  simp only [wt] at hwt
  have hkl := wts_len kids
  have hgb := hg.bounds
  have hgk := hg.kids
  have hfit := sizes3_fit hg hsz
  have hgg := hg
  simp only [Good] at hgg
  replace hgb : Hide _ := ⟨hgb⟩
  replace hgg : Hide _ := ⟨hgg⟩
  refine enter (n := 138) (args := [.agg #[.string (B op), .string (B set), .slice A kids.length c, .int .i64 lo, .int .i64 hi], .int .i64 (deep : Int)]) Try.func57 rfl rfl rfl (by simp) ?_
  refine Wp.seq (Wp.region rfl ?_)
  simp -dsimp (maxSteps := 2000000) (disch := first | omega | (simp only [qZ] <;> omega) | fail) only [push_cast, ↓qP, ↓reduceIte, Nat.reduceEqDiff, Nat.reduceAdd, Nat.reduceMul, Nat.reduceSub, Nat.reduceLeDiff, Int.reduceToNat, reduceCtorEq]
  obtain ⟨p, hp⟩ : ∃ p, p = w.heap.size := ⟨_, rfl⟩
  rw [← hp]
  refine Wp.gen (A := fun W => Kp (fun _ => False) w W ∧ Blk W p 33 [.string (B op), .string (B set), .slice A kids.length c, .int .i64 lo, .int .i64 hi]) ⟨(Kp.refl _ w).alloc _, by rw [hp]; exact Blk.new _ _ _⟩ ?_
  rintro w1 ⟨k1, hb1⟩
  have hltp := hb1.lt
  have cd : decide ((deep : Int) > 2000) = false := decide_eq_false (by omega)
  refine Wp.cut (fun F W => F 1 = .int .i64 (deep : Int) ∧ F 2 = .pointer (some ⟨p, 0, none⟩) ∧ F 6 = .bool (decide (op = opSet) || decide (op = opBol) || decide (op = opEol)) ∧ w1 = W) ?_ ?_
  · rcases hgg.out with ⟨rfl, hk, _⟩ | ⟨rfl, hk⟩ | ⟨rfl, hk⟩ | ⟨rfl, hk⟩ | ⟨rfl, hk⟩ | ⟨rfl, hk⟩
    · obtain ⟨e1, e2, e3, e4, e5, e6⟩ := ops_set
      repeat (first | refine qS ?_ | refine qB ?_ | refine qT rfl ?_ | refine qF rfl ?_ | ((first | refine qR rfl ?_ | refine qK ?_ | refine qE ?_ | refine qW ?_ | refine qM ?_); try simp -dsimp (maxSteps := 2000000) (disch := first | omega | (simp only [qZ] <;> omega) | fail) only [push_cast, ↓qP, ↓reduceIte, Nat.reduceEqDiff, Nat.reduceAdd, Nat.reduceMul, Nat.reduceSub, Nat.reduceLeDiff, Int.reduceToNat, reduceCtorEq, hb1.rdc, e1, e2, e3]) | (refine qA ?_ ?_; (first | omega | (simp only [qL]; omega) | (simp only [qD] at *; omega))))
      exact Mid.mk ⟨by simp [upd, arg], by simp [upd], by simp [upd]; try decide, rfl⟩
    · obtain ⟨e1, e2, e3, e4, e5, e6⟩ := ops_bol
      repeat (first | refine qS ?_ | refine qB ?_ | refine qT rfl ?_ | refine qF rfl ?_ | ((first | refine qR rfl ?_ | refine qK ?_ | refine qE ?_ | refine qW ?_ | refine qM ?_); try simp -dsimp (maxSteps := 2000000) (disch := first | omega | (simp only [qZ] <;> omega) | fail) only [push_cast, ↓qP, ↓reduceIte, Nat.reduceEqDiff, Nat.reduceAdd, Nat.reduceMul, Nat.reduceSub, Nat.reduceLeDiff, Int.reduceToNat, reduceCtorEq, hb1.rdc, e1, e2, e3]) | (refine qA ?_ ?_; (first | omega | (simp only [qL]; omega) | (simp only [qD] at *; omega))))
      exact Mid.mk ⟨by simp [upd, arg], by simp [upd], by simp [upd]; try decide, rfl⟩
    · obtain ⟨e1, e2, e3, e4, e5, e6⟩ := ops_eol
      repeat (first | refine qS ?_ | refine qB ?_ | refine qT rfl ?_ | refine qF rfl ?_ | ((first | refine qR rfl ?_ | refine qK ?_ | refine qE ?_ | refine qW ?_ | refine qM ?_); try simp -dsimp (maxSteps := 2000000) (disch := first | omega | (simp only [qZ] <;> omega) | fail) only [push_cast, ↓qP, ↓reduceIte, Nat.reduceEqDiff, Nat.reduceAdd, Nat.reduceMul, Nat.reduceSub, Nat.reduceLeDiff, Int.reduceToNat, reduceCtorEq, hb1.rdc, e1, e2, e3]) | (refine qA ?_ ?_; (first | omega | (simp only [qL]; omega) | (simp only [qD] at *; omega))))
      exact Mid.mk ⟨by simp [upd, arg], by simp [upd], by simp [upd]; try decide, rfl⟩
    · obtain ⟨e1, e2, e3, e4, e5, e6⟩ := ops_cat
      repeat (first | refine qS ?_ | refine qB ?_ | refine qT rfl ?_ | refine qF rfl ?_ | ((first | refine qR rfl ?_ | refine qK ?_ | refine qE ?_ | refine qW ?_ | refine qM ?_); try simp -dsimp (maxSteps := 2000000) (disch := first | omega | (simp only [qZ] <;> omega) | fail) only [push_cast, ↓qP, ↓reduceIte, Nat.reduceEqDiff, Nat.reduceAdd, Nat.reduceMul, Nat.reduceSub, Nat.reduceLeDiff, Int.reduceToNat, reduceCtorEq, hb1.rdc, e1, e2, e3]) | (refine qA ?_ ?_; (first | omega | (simp only [qL]; omega) | (simp only [qD] at *; omega))))
      exact Mid.mk ⟨by simp [upd, arg], by simp [upd], by simp [upd]; try decide, rfl⟩
    · obtain ⟨e1, e2, e3, e4, e5, e6⟩ := ops_alt
      repeat (first | refine qS ?_ | refine qB ?_ | refine qT rfl ?_ | refine qF rfl ?_ | ((first | refine qR rfl ?_ | refine qK ?_ | refine qE ?_ | refine qW ?_ | refine qM ?_); try simp -dsimp (maxSteps := 2000000) (disch := first | omega | (simp only [qZ] <;> omega) | fail) only [push_cast, ↓qP, ↓reduceIte, Nat.reduceEqDiff, Nat.reduceAdd, Nat.reduceMul, Nat.reduceSub, Nat.reduceLeDiff, Int.reduceToNat, reduceCtorEq, hb1.rdc, e1, e2, e3]) | (refine qA ?_ ?_; (first | omega | (simp only [qL]; omega) | (simp only [qD] at *; omega))))
      exact Mid.mk ⟨by simp [upd, arg], by simp [upd], by simp [upd]; try decide, rfl⟩
    · obtain ⟨e1, e2, e3, e4, e5, e6⟩ := ops_rep
      repeat (first | refine qS ?_ | refine qB ?_ | refine qT rfl ?_ | refine qF rfl ?_ | ((first | refine qR rfl ?_ | refine qK ?_ | refine qE ?_ | refine qW ?_ | refine qM ?_); try simp -dsimp (maxSteps := 2000000) (disch := first | omega | (simp only [qZ] <;> omega) | fail) only [push_cast, ↓qP, ↓reduceIte, Nat.reduceEqDiff, Nat.reduceAdd, Nat.reduceMul, Nat.reduceSub, Nat.reduceLeDiff, Int.reduceToNat, reduceCtorEq, hb1.rdc, e1, e2, e3]) | (refine qA ?_ ?_; (first | omega | (simp only [qL]; omega) | (simp only [qD] at *; omega))))
      exact Mid.mk ⟨by simp [upd, arg], by simp [upd], by simp [upd]; try decide, rfl⟩
  rintro F _ ⟨f1, f2, f6, rfl⟩
  refine Wp.cut (fun F W => F 1 = .int .i64 (deep : Int) ∧ F 2 = .pointer (some ⟨p, 0, none⟩) ∧ w1 = W) ?_ ?_
  · rcases hgg.out with ⟨rfl, hk, _⟩ | ⟨rfl, hk⟩ | ⟨rfl, hk⟩ | ⟨rfl, hk⟩ | ⟨rfl, hk, _⟩ | ⟨rfl, hk⟩
    · obtain ⟨e1, e2, e3, e4, e5, e6⟩ := ops_set
      rw [lf_set] at f6
      have ck : decide ((kids.length : Int) > 0) = false := decide_eq_false (by rw [hk]; simp)
      repeat (first | refine qS ?_ | refine qB ?_ | refine qT rfl ?_ | refine qF rfl ?_ | ((first | refine qR rfl ?_ | refine qK ?_ | refine qE ?_ | refine qW ?_ | refine qM ?_); try simp -dsimp (maxSteps := 2000000) (disch := first | omega | (simp only [qZ] <;> omega) | fail) only [push_cast, ↓qP, ↓reduceIte, Nat.reduceEqDiff, Nat.reduceAdd, Nat.reduceMul, Nat.reduceSub, Nat.reduceLeDiff, Int.reduceToNat, reduceCtorEq, f1, f2, f6, cd, ck, hb1.rdc, e4]) | (refine qA ?_ ?_; (first | omega | (simp only [qL]; omega) | (simp only [qD] at *; omega))))
      exact Mid.mk ⟨by simp [upd, f1], by simp [upd, f2], rfl⟩
    · obtain ⟨e1, e2, e3, e4, e5, e6⟩ := ops_bol
      rw [lf_bol] at f6
      have ck : decide ((kids.length : Int) > 0) = false := decide_eq_false (by rw [hk]; simp)
      repeat (first | refine qS ?_ | refine qB ?_ | refine qT rfl ?_ | refine qF rfl ?_ | ((first | refine qR rfl ?_ | refine qK ?_ | refine qE ?_ | refine qW ?_ | refine qM ?_); try simp -dsimp (maxSteps := 2000000) (disch := first | omega | (simp only [qZ] <;> omega) | fail) only [push_cast, ↓qP, ↓reduceIte, Nat.reduceEqDiff, Nat.reduceAdd, Nat.reduceMul, Nat.reduceSub, Nat.reduceLeDiff, Int.reduceToNat, reduceCtorEq, f1, f2, f6, cd, ck, hb1.rdc, e4]) | (refine qA ?_ ?_; (first | omega | (simp only [qL]; omega) | (simp only [qD] at *; omega))))
      exact Mid.mk ⟨by simp [upd, f1], by simp [upd, f2], rfl⟩
    · obtain ⟨e1, e2, e3, e4, e5, e6⟩ := ops_eol
      rw [lf_eol] at f6
      have ck : decide ((kids.length : Int) > 0) = false := decide_eq_false (by rw [hk]; simp)
      repeat (first | refine qS ?_ | refine qB ?_ | refine qT rfl ?_ | refine qF rfl ?_ | ((first | refine qR rfl ?_ | refine qK ?_ | refine qE ?_ | refine qW ?_ | refine qM ?_); try simp -dsimp (maxSteps := 2000000) (disch := first | omega | (simp only [qZ] <;> omega) | fail) only [push_cast, ↓qP, ↓reduceIte, Nat.reduceEqDiff, Nat.reduceAdd, Nat.reduceMul, Nat.reduceSub, Nat.reduceLeDiff, Int.reduceToNat, reduceCtorEq, f1, f2, f6, cd, ck, hb1.rdc, e4]) | (refine qA ?_ ?_; (first | omega | (simp only [qL]; omega) | (simp only [qD] at *; omega))))
      exact Mid.mk ⟨by simp [upd, f1], by simp [upd, f2], rfl⟩
    · obtain ⟨e1, e2, e3, e4, e5, e6⟩ := ops_cat
      rw [lf_cat] at f6
      repeat (first | refine qS ?_ | refine qB ?_ | refine qT rfl ?_ | refine qF rfl ?_ | ((first | refine qR rfl ?_ | refine qK ?_ | refine qE ?_ | refine qW ?_ | refine qM ?_); try simp -dsimp (maxSteps := 2000000) (disch := first | omega | (simp only [qZ] <;> omega) | fail) only [push_cast, ↓qP, ↓reduceIte, Nat.reduceEqDiff, Nat.reduceAdd, Nat.reduceMul, Nat.reduceSub, Nat.reduceLeDiff, Int.reduceToNat, reduceCtorEq, f1, f2, f6, cd, hb1.rdc, e4]) | (refine qA ?_ ?_; (first | omega | (simp only [qL]; omega) | (simp only [qD] at *; omega))))
      exact Mid.mk ⟨by simp [upd, f1], by simp [upd, f2], rfl⟩
    · obtain ⟨e1, e2, e3, e4, e5, e6⟩ := ops_alt
      rw [lf_alt] at f6
      have ck : ((kids.length : Int) == 0) = false := by simpa using hk
      repeat (first | refine qS ?_ | refine qB ?_ | refine qT rfl ?_ | refine qF rfl ?_ | ((first | refine qR rfl ?_ | refine qK ?_ | refine qE ?_ | refine qW ?_ | refine qM ?_); try simp -dsimp (maxSteps := 2000000) (disch := first | omega | (simp only [qZ] <;> omega) | fail) only [push_cast, ↓qP, ↓reduceIte, Nat.reduceEqDiff, Nat.reduceAdd, Nat.reduceMul, Nat.reduceSub, Nat.reduceLeDiff, Int.reduceToNat, reduceCtorEq, f1, f2, f6, cd, ck, hb1.rdc, e4]) | (refine qA ?_ ?_; (first | omega | (simp only [qL]; omega) | (simp only [qD] at *; omega))))
      exact Mid.mk ⟨by simp [upd, f1], by simp [upd, f2], rfl⟩
    · obtain ⟨e1, e2, e3, e4, e5, e6⟩ := ops_rep
      rw [lf_rep] at f6
      repeat (first | refine qS ?_ | refine qB ?_ | refine qT rfl ?_ | refine qF rfl ?_ | ((first | refine qR rfl ?_ | refine qK ?_ | refine qE ?_ | refine qW ?_ | refine qM ?_); try simp -dsimp (maxSteps := 2000000) (disch := first | omega | (simp only [qZ] <;> omega) | fail) only [push_cast, ↓qP, ↓reduceIte, Nat.reduceEqDiff, Nat.reduceAdd, Nat.reduceMul, Nat.reduceSub, Nat.reduceLeDiff, Int.reduceToNat, reduceCtorEq, f1, f2, f6, cd, hb1.rdc, e4]) | (refine qA ?_ ?_; (first | omega | (simp only [qL]; omega) | (simp only [qD] at *; omega))))
      exact Mid.mk ⟨by simp [upd, f1], by simp [upd, f2], rfl⟩
  clear f1 f2 f6
  rintro F _ ⟨f1, f2, rfl⟩
  refine Wp.seq (Wp.region rfl ?_)
  simp -dsimp (maxSteps := 2000000) (disch := first | omega | (simp only [qZ] <;> omega) | fail) only [push_cast, ↓qP, ↓reduceIte, Nat.reduceEqDiff, Nat.reduceAdd, Nat.reduceMul, Nat.reduceSub, Nat.reduceLeDiff, Int.reduceToNat, reduceCtorEq]
  refine Wp.cut (fun F W => F 2 = .pointer (some ⟨p, 0, none⟩) ∧ F 7 = .int .i64 (sizes3 kids 0) ∧ Kp (fun _ => False) w W ∧ Blk W p 33 [.string (B op), .string (B set), .slice A kids.length c, .int .i64 lo, .int .i64 hi]) ?_ ?_
  · repeat (first | refine qS ?_ | refine qB ?_ | refine qT rfl ?_ | refine qF rfl ?_ | ((first | refine qR rfl ?_ | refine qK ?_ | refine qE ?_ | refine qW ?_ | refine qM ?_); try simp -dsimp (maxSteps := 2000000) (disch := first | omega | (simp only [qZ] <;> omega) | fail) only [push_cast, ↓qP, ↓reduceIte, Nat.reduceEqDiff, Nat.reduceAdd, Nat.reduceMul, Nat.reduceSub, Nat.reduceLeDiff, Int.reduceToNat, reduceCtorEq, f2, hb1.rdc]) | (refine qA ?_ ?_; (first | omega | (simp only [qL]; omega) | (simp only [qD] at *; omega))))
    refine Wp.loop (α := Nat) (fun j F W => j ≤ kids.length ∧ F 1 = .int .i64 (deep : Int) ∧ F 2 = .pointer (some ⟨p, 0, none⟩) ∧ F 7 = .int .i64 (sizes3 (kids.take j) 0) ∧ F 49 = .slice A kids.length c ∧ F 50 = .int .i64 (kids.length : Int) ∧ F 51 = .int .i64 j ∧ Kp (fun _ => False) w W ∧ Blk W p 33 [.string (B op), .string (B set), .slice A kids.length c, .int .i64 lo, .int .i64 hi]) (fun j => kids.length - j) 0
      ⟨Nat.zero_le _, by simp [upd, f1], by simp [upd, f2], by simp [upd, sizes3], by simp [upd], by simp [upd], by simp [upd], k1, hb1⟩ ?_
    clear k1 hb1 hltp f1 f2
    rintro j F W ⟨hj, f1, f2, f7, f49, f50, f51, k1, hb1⟩
    have hltp := hb1.lt
    rcases Nat.lt_or_ge j kids.length with hlt | hge
    · have c1 : decide ((j : Int) < (kids.length : Int)) = true := decide_eq_true (by omega)
      have hget : kids[j]? = some kids[j] := List.getElem?_eq_getElem hlt
      obtain ⟨b, o, d0, d1, A1, m1, d2, lo1, hi1, rfl, hbl, hD, q0, q1, q2, q3, q4, hre, _⟩ := h.kid k1 hget
      have hmem : kids[j] ∈ kids := List.getElem_mem hlt
      have hgj := Goods_mem hgk hmem
      have hwj := wts_mem hmem
      obtain ⟨z1, z2, z3, z4, z5⟩ := sizes3_kid hg hsz hlt
      have z3' : decide (sizes3 (kids.take j) 0 + size3 kids[j] > 2000) = false := decide_eq_false (by omega)
      refine Sm.out ?_
      repeat (first | ((fail_if_success (first | refine qY (n := 8) ?_ | refine qV (n := 8) ?_)); refine qS ?_) | refine qB ?_ | refine qT rfl ?_ | refine qF rfl ?_ | ((first | refine qR rfl ?_ | refine qK ?_ | refine qE ?_ | refine qW ?_ | refine qM ?_); try simp -dsimp (maxSteps := 2000000) (disch := first | omega | (simp only [qZ] <;> omega) | fail) only [push_cast, ↓qP, ↓reduceIte, Nat.reduceEqDiff, Nat.reduceAdd, Nat.reduceMul, Nat.reduceSub, Nat.reduceLeDiff, Int.reduceToNat, reduceCtorEq, f1, f2, f7, f49, f50, f51, c1, q0, q1, q2, q3, q4]) | (refine qA ?_ ?_; (first | omega | (simp only [qL]; omega) | (simp only [qD] at *; omega))))
      have hq := Blk.setAll (vs := [.string (B d0), .string (B d1), .slice A1 m1 d2, .int .i64 lo1, .int .i64 hi1]) (Blk.new W 33 zRe) rfl
      refine Wp.gen (w := (W.alloc (.cells zRe.toArray 33)).setCells W.heap.size 0 [.string (B d0), .string (B d1), .slice A1 m1 d2, .int .i64 lo1, .int .i64 hi1]) (A := fun W2 => Kp (fun _ => False) W W2 ∧ Blk W2 W.heap.size 33 [.string (B d0), .string (B d1), .slice A1 m1 d2, .int .i64 lo1, .int .i64 hi1]) ⟨((Kp.refl _ W).alloc _).setCells (fun h => absurd h (Nat.lt_irrefl _)) _ _, hq⟩ ?_
      rintro W2 ⟨k2, hq2⟩
      have hb2 := k2.Blk hb1 id
      have hltq := hq2.lt
      have hre2 := hre.Kp (D' := D) k2 (fun _ _ => id) (fun _ h => h)
      repeat (first | refine qS ?_ | refine qB ?_ | refine qT rfl ?_ | refine qF rfl ?_ | ((first | refine qR rfl ?_ | refine qK ?_ | refine qE ?_ | refine qW ?_ | refine qM ?_); try simp -dsimp (maxSteps := 2000000) (disch := first | omega | (simp only [qZ] <;> omega) | fail) only [push_cast, ↓qP, ↓reduceIte, Nat.reduceEqDiff, Nat.reduceAdd, Nat.reduceMul, Nat.reduceSub, Nat.reduceLeDiff, Int.reduceToNat, reduceCtorEq, f1, f2, f7, f49, f50, f51, hq2.rdc]) | (refine qA ?_ ?_; (first | omega | (simp only [qL]; omega) | (simp only [qD] at *; omega))))
      refine CallV.of isCall_57 (ih _ hmem hgj z5 W2 _ (deep + 1) (by omega) hre2) ?_
      rintro _ W3 ⟨rfl, k3⟩
      have hb3 := k3.Blk hb2 id
      refine Sm.out ?_
      repeat (first | refine qS ?_ | refine qB ?_ | refine qT rfl ?_ | refine qF rfl ?_ | ((first | refine qR rfl ?_ | refine qK ?_ | refine qE ?_ | refine qW ?_ | refine qM ?_); try simp -dsimp (maxSteps := 2000000) (disch := first | omega | (simp only [qZ] <;> omega) | fail) only [push_cast, ↓qP, ↓reduceIte, Nat.reduceEqDiff, Nat.reduceAdd, Nat.reduceMul, Nat.reduceSub, Nat.reduceLeDiff, Int.reduceToNat, reduceCtorEq, f1, f2, f7, f49, f50, f51, z3']) | (refine qA ?_ ?_; (first | omega | (simp only [qL]; omega) | (simp only [qD] at *; omega))))
      exact Again.mk (j + 1) ⟨by omega, by simp [upd, f1], by simp [upd, f2], by simp [upd, z2], by simp [upd, f49], by simp [upd, f50], by simp [upd], k1.trans (k2.trans k3), hb3⟩ (by omega)
    · obtain rfl : j = kids.length := by omega
      have c1 : decide ((kids.length : Int) < (kids.length : Int)) = false := decide_eq_false (by omega)
      rw [List.take_length] at f7
      repeat (first | refine qS ?_ | refine qB ?_ | refine qT rfl ?_ | refine qF rfl ?_ | ((first | refine qR rfl ?_ | refine qK ?_ | refine qE ?_ | refine qW ?_ | refine qM ?_); try simp -dsimp (maxSteps := 2000000) (disch := first | omega | (simp only [qZ] <;> omega) | fail) only [push_cast, ↓qP, ↓reduceIte, Nat.reduceEqDiff, Nat.reduceAdd, Nat.reduceMul, Nat.reduceSub, Nat.reduceLeDiff, Int.reduceToNat, reduceCtorEq, f1, f2, f49, f50, f51, c1]) | (refine qA ?_ ?_; (first | omega | (simp only [qL]; omega) | (simp only [qD] at *; omega))))
      exact Mid.mk ⟨by simp [upd, f2], by simp [upd, f7], k1, hb1⟩
  clear k1 hb1 hltp f1 f2
  rintro F w2 ⟨f2, f7, k1, hb1⟩
  have hltp := hb1.lt
  have hz := hsz
  have hz2 : decide (size3 (.node op set kids lo hi) ≤ 2000) = true := decide_eq_true hsz
  obtain ⟨n1, n2, n3, n4, n5, n6, n7, n8, n9, n10, n11, n12, n13, n14, n15⟩ := op_ne
  rcases hgg.out with ⟨rfl, hk, _⟩ | ⟨rfl, hk⟩ | ⟨rfl, hk⟩ | ⟨rfl, hk⟩ | ⟨rfl, hk, _⟩ | ⟨rfl, hk, _⟩
  · simp only [size3, if_true] at hz2 ⊢
    obtain ⟨e1, e2, e3, e4, e5, e6⟩ := ops_set
    have hone : decide ((1 : Int) ≤ 2000) = true := rfl
    repeat (first | refine qS ?_ | refine qB ?_ | refine qT rfl ?_ | refine qF rfl ?_ | ((first | refine qR rfl ?_ | refine qK ?_ | refine qE ?_ | refine qW ?_ | refine qM ?_); try simp -dsimp (maxSteps := 2000000) (disch := first | omega | (simp only [qZ] <;> omega) | fail) only [push_cast, ↓qP, ↓reduceIte, Nat.reduceEqDiff, Nat.reduceAdd, Nat.reduceMul, Nat.reduceSub, Nat.reduceLeDiff, Int.reduceToNat, reduceCtorEq, f2, f7, hb1.rdc, e1, e2, e3, e4, e5, e6, hone]) | (refine qA ?_ ?_; (first | omega | (simp only [qL]; omega) | (simp only [qD] at *; omega))))
    exact Ret.mk ⟨rfl, k1⟩
  · simp only [size3, Ne.symm n1, if_false, if_true] at hz2 ⊢
    obtain ⟨e1, e2, e3, e4, e5, e6⟩ := ops_bol
    have hone : decide ((1 : Int) ≤ 2000) = true := rfl
    repeat (first | refine qS ?_ | refine qB ?_ | refine qT rfl ?_ | refine qF rfl ?_ | ((first | refine qR rfl ?_ | refine qK ?_ | refine qE ?_ | refine qW ?_ | refine qM ?_); try simp -dsimp (maxSteps := 2000000) (disch := first | omega | (simp only [qZ] <;> omega) | fail) only [push_cast, ↓qP, ↓reduceIte, Nat.reduceEqDiff, Nat.reduceAdd, Nat.reduceMul, Nat.reduceSub, Nat.reduceLeDiff, Int.reduceToNat, reduceCtorEq, f2, f7, hb1.rdc, e1, e2, e3, e4, e5, e6, hone]) | (refine qA ?_ ?_; (first | omega | (simp only [qL]; omega) | (simp only [qD] at *; omega))))
    exact Ret.mk ⟨rfl, k1⟩
  · simp only [size3, Ne.symm n2, Ne.symm n6, if_false, if_true] at hz2 ⊢
    obtain ⟨e1, e2, e3, e4, e5, e6⟩ := ops_eol
    have hone : decide ((1 : Int) ≤ 2000) = true := rfl
    repeat (first | refine qS ?_ | refine qB ?_ | refine qT rfl ?_ | refine qF rfl ?_ | ((first | refine qR rfl ?_ | refine qK ?_ | refine qE ?_ | refine qW ?_ | refine qM ?_); try simp -dsimp (maxSteps := 2000000) (disch := first | omega | (simp only [qZ] <;> omega) | fail) only [push_cast, ↓qP, ↓reduceIte, Nat.reduceEqDiff, Nat.reduceAdd, Nat.reduceMul, Nat.reduceSub, Nat.reduceLeDiff, Int.reduceToNat, reduceCtorEq, f2, f7, hb1.rdc, e1, e2, e3, e4, e5, e6, hone]) | (refine qA ?_ ?_; (first | omega | (simp only [qL]; omega) | (simp only [qD] at *; omega))))
    exact Ret.mk ⟨rfl, k1⟩
  · simp only [size3, Ne.symm n3, Ne.symm n7, Ne.symm n10, n13, n14, if_false] at hz2 hz ⊢
    have hm : min (sizes3 kids 0) 2001 = sizes3 kids 0 := by omega
    rw [hm] at hz2 ⊢
    obtain ⟨e1, e2, e3, e4, e5, e6⟩ := ops_cat
    repeat (first | refine qS ?_ | refine qB ?_ | refine qT rfl ?_ | refine qF rfl ?_ | ((first | refine qR rfl ?_ | refine qK ?_ | refine qE ?_ | refine qW ?_ | refine qM ?_); try simp -dsimp (maxSteps := 2000000) (disch := first | omega | (simp only [qZ] <;> omega) | fail) only [push_cast, ↓qP, ↓reduceIte, Nat.reduceEqDiff, Nat.reduceAdd, Nat.reduceMul, Nat.reduceSub, Nat.reduceLeDiff, Int.reduceToNat, reduceCtorEq, f2, f7, hb1.rdc, e1, e2, e3, e4, e5, e6, hz2]) | (refine qA ?_ ?_; (first | omega | (simp only [qL]; omega) | (simp only [qD] at *; omega))))
    exact Ret.mk ⟨rfl, k1⟩
  · simp only [size3, Ne.symm n4, Ne.symm n8, Ne.symm n11, if_false, if_true] at hz2 hz ⊢
    have hm : min (sizes3 kids 0 + 1) 2001 = sizes3 kids 0 + 1 := by omega
    rw [hm] at hz2 ⊢
    obtain ⟨e1, e2, e3, e4, e5, e6⟩ := ops_alt
    repeat (first | refine qS ?_ | refine qB ?_ | refine qT rfl ?_ | refine qF rfl ?_ | ((first | refine qR rfl ?_ | refine qK ?_ | refine qE ?_ | refine qW ?_ | refine qM ?_); try simp -dsimp (maxSteps := 2000000) (disch := first | omega | (simp only [qZ] <;> omega) | fail) only [push_cast, ↓qP, ↓reduceIte, Nat.reduceEqDiff, Nat.reduceAdd, Nat.reduceMul, Nat.reduceSub, Nat.reduceLeDiff, Int.reduceToNat, reduceCtorEq, f2, f7, hb1.rdc, e1, e2, e3, e4, e5, e6, hz2]) | (refine qA ?_ ?_; (first | omega | (simp only [qL]; omega) | (simp only [qD] at *; omega))))
    exact Ret.mk ⟨rfl, k1⟩
  · obtain ⟨b1, b2, b3, b4, b5, b6⟩ := hgb.out rfl
    simp only [size3, Ne.symm n5, Ne.symm n9, Ne.symm n12, Ne.symm n15, if_false, if_true] at hz2 hz ⊢
    have hm : min (sizes3 kids 0 * (if hi < 0 then lo + 1 else max 1 hi) + 1) 2001 = sizes3 kids 0 * (if hi < 0 then lo + 1 else max 1 hi) + 1 := by omega
    rw [hm] at hz2 ⊢
    have g1 : ((kids.length : Int) != 1) = false := by rw [hk]; rfl
    have g2 : decide (lo < 0) = false := decide_eq_false (by omega)
    have g3 : decide (lo > 255) = false := decide_eq_false (by omega)
    have g4 : decide (hi > 255) = false := decide_eq_false (by omega)
    have g5 : decide (hi < -1) = false := decide_eq_false (by omega)
    have hmn : 0 ≤ sizes3 kids 0 * (if hi < 0 then lo + 1 else max 1 hi) := Int.mul_nonneg hfit.1 (by split <;> omega)
    obtain ⟨e1, e2, e3, e4, e5, e6⟩ := ops_rep
    rcases Bool.eq_false_or_eq_true (decide (hi < 0)) with c6 | c6
    · have c6' : hi < 0 := by simpa using c6
      rw [if_pos c6'] at hz2 hmn hm hz ⊢
      have g6 : decide (hi ≥ 0) = false := decide_eq_false (by omega)
      repeat (first | refine qS ?_ | refine qB ?_ | refine qT rfl ?_ | refine qF rfl ?_ | ((first | refine qR rfl ?_ | refine qK ?_ | refine qE ?_ | refine qW ?_ | refine qM ?_); try simp -dsimp (maxSteps := 2000000) (disch := first | omega | (simp only [qZ] <;> omega) | fail) only [push_cast, ↓qP, ↓reduceIte, Nat.reduceEqDiff, Nat.reduceAdd, Nat.reduceMul, Nat.reduceSub, Nat.reduceLeDiff, Int.reduceToNat, reduceCtorEq, f2, f7, hb1.rdc, e1, e2, e3, e4, e5, e6, g1, g2, g3, g4, g5, g6, c6, hz2]) | (refine qA ?_ ?_; (first | omega | (simp only [qL]; omega) | (simp only [qD] at *; omega))))
      exact Ret.mk ⟨rfl, k1⟩
    · have c6' : ¬ hi < 0 := by simpa using c6
      rw [if_neg c6'] at hz2 hmn hm hz ⊢
      have g6 : decide (hi ≥ 0) = true := decide_eq_true (by omega)
      have g7 : decide (hi < lo) = false := decide_eq_false (by omega)
      repeat (first | refine qS ?_ | refine qB ?_ | refine qT rfl ?_ | refine qF rfl ?_ | ((first | refine qR rfl ?_ | refine qK ?_ | refine qE ?_ | refine qW ?_ | refine qM ?_); try simp -dsimp (maxSteps := 2000000) (disch := first | omega | (simp only [qZ] <;> omega) | fail) only [push_cast, ↓qP, ↓reduceIte, Nat.reduceEqDiff, Nat.reduceAdd, Nat.reduceMul, Nat.reduceSub, Nat.reduceLeDiff, Int.reduceToNat, reduceCtorEq, f2, f7, hb1.rdc, e1, e2, e3, e4, e5, e6, g1, g2, g3, g4, g5, g6, g7, c6, hz2]) | (refine qA ?_ ?_; (first | omega | (simp only [qL]; omega) | (simp only [qD] at *; omega))))
      exact Ret.mk ⟨rfl, k1⟩
end
end Go.Proofs.Ytddichibegppjaa
