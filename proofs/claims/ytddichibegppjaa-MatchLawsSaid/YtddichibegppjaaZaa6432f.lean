/- The program's reader of expressions: its state, peek, take, digits. -/
import Derived.Test.YtddichibegppjaaW0
import Derived.Test.YtddichibegppjaaP9
import Derived.Test.YtddichibegppjaaVs
import Derived.Test.YtddichibegppjaaVp
import Derived.Test.YtddichibegppjaaFacts
import Derived.Test.YtddichibegppjaaP2
import Derived.Test.YtddichibegppjaaP3
set_option linter.unusedSimpArgs false
set_option linter.unusedVariables false
set_option maxRecDepth 100000
set_option maxHeartbeats 8000000
attribute [local irreducible] Go.VC.OpV Go.VC.CallV Go.VC.Wp Go.VC.post
namespace Go.Proofs.Ytddichibegppjaa
open Go Go.VC Go.RowKit

/-- The reader: what is left of the text, and how deep it stands. -/
def Rd (w : World) (a : Nat) (l : List UInt8) (i : Nat) (d : Int) : Prop := Blk w a 133 [.string (B (l.drop i)), .int .i64 d]
theorem Rd.blk {w : World} {a : Nat} {l : List UInt8} {i : Nat} {d : Int} (h : Rd w a l i d) : Blk w a 133 [.string (B (l.drop i)), .int .i64 d] := h
/-- A fault. -/
def flt (k : Int) : List PanicEntry := [{ v := .iface 130 (.int .i64 k), recovered := false }]
def Pn (w : World) (a : Nat) (e : Ending) (w' : World) : Prop := ∃ k : Int, e = .panicked (flt k) ∧ 1 ≤ k ∧ k ≤ 5 ∧ Kp (fun b => b = a) w w'
def hasAt (l : List UInt8) (i : Nat) (c : UInt8) : Bool := decide (i < l.length) && byteAt l i == c

theorem drop_at {l : List UInt8} {i : Nat} (h : i < l.length) : l.drop i = byteAt l i :: l.drop (i + 1) := by
  rw [List.drop_eq_getElem_cons h]; simp [byteAt, List.getD_eq_getElem?_getD, h]
theorem getD_drop (l : List UInt8) (i j : Nat) : (l.drop i).getD j 0 = byteAt l (i + j) := by
  simp [byteAt, List.getD_eq_getElem?_getD, List.getElem?_drop]
theorem empty_iff {l : List UInt8} {i : Nat} : (l.drop i == []) = decide (l.length ≤ i) := by
  rw [Bool.eq_iff_iff, beq_iff_eq, decide_eq_true_eq, List.drop_eq_nil_iff]
theorem pre1 (l : List UInt8) (i : Nat) (c : UInt8) : Lib.hasPrefix (l.drop i) [c] = hasAt l i c := by
  unfold Lib.hasPrefix hasAt
  rcases Nat.lt_or_ge i l.length with h | h
  · rw [drop_at h, decide_eq_true h]
    simp only [List.isPrefixOf, Bool.and_true, Bool.true_and]
    rw [Bool.eq_iff_iff, beq_iff_eq, beq_iff_eq]; exact eq_comm
  · rw [List.drop_of_length_le h, decide_eq_false (by omega)]; rfl
theorem pre2 (l : List UInt8) (i : Nat) (c e : UInt8) : Lib.hasPrefix (l.drop i) [c, e] = (hasAt l i c && hasAt l (i + 1) e) := by
  unfold Lib.hasPrefix
  rcases Nat.lt_or_ge i l.length with h | h
  · have := pre1 l (i + 1) e
    unfold Lib.hasPrefix at this
    rw [drop_at h]
    show (c == byteAt l i && List.isPrefixOf [e] (l.drop (i + 1))) = _
    rw [this]
    unfold hasAt
    rw [decide_eq_true h, Bool.true_and]
    congr 1
    rw [Bool.eq_iff_iff, beq_iff_eq, beq_iff_eq]; exact eq_comm
  · rw [List.drop_of_length_le h]; unfold hasAt; rw [decide_eq_false (by omega : ¬ i < l.length)]; rfl
theorem trim_of (l : List UInt8) (i : Nat) (p : List UInt8) : Lib.trimPrefix (l.drop i) p = l.drop (if Lib.hasPrefix (l.drop i) p then i + p.length else i) := by
  unfold Lib.trimPrefix
  split
  · rw [List.drop_drop]
  · rfl

section
variable {w : World} {a : Nat} {l : List UInt8} {i : Nat} {d : Int}
theorem Rd.keep {w' : World} {S : Nat → Prop} (h : Rd w a l i d) (k : Kp S w w') (hs : ¬ S a) : Rd w' a l i d := k.Blk h.blk hs
theorem Rd.lt (h : Rd w a l i d) : a < w.heap.size := h.blk.lt
theorem Rd.drew (h : Rd w a l i d) : Rd w.drew a l i d := h
theorem Rd.alloc (h : Rd w a l i d) (o : Obj) : Rd (w.alloc o) a l i d := h.blk.alloc o

theorem peek_any (h : Rd w a l i d) : Calls Try.prog 96 #[.pointer (some ⟨a, 0, none⟩)] w fun e w' => e = .returned (.tuple #[.int .u8 (if i < l.length then ((byteAt l i).toNat : Int) else 0), .bool (decide (i < l.length))]) ∧ w = w' := by
  refine enter (n := 14) (args := [.pointer (some ⟨a, 0, none⟩)]) Try.func96 rfl rfl rfl (by simp) ?_
  have hb := h.blk.rdc
  have he := empty_iff (l := l) (i := i)
  rcases Nat.lt_or_ge i l.length with hi | hi
  · rw [decide_eq_false (by omega)] at he
    have hg := getD_drop l i 0
    have hl : 0 < (l.drop i).length := by simp; omega
    rw [if_pos hi, decide_eq_true hi]
    repeat (first | refine qS ?_ | refine qB ?_ | refine qT rfl ?_ | refine qF rfl ?_ | ((first | refine qR rfl ?_ | refine qK ?_ | refine qE ?_ | refine qW ?_ | refine qM ?_); try simp -dsimp (maxSteps := 2000000) (disch := first | omega | (simp only [qZ] <;> omega) | fail) only [push_cast, ↓qP, ↓reduceIte, Nat.reduceEqDiff, Nat.reduceAdd, Nat.reduceMul, Nat.reduceSub, Nat.reduceLeDiff, Int.reduceToNat, reduceCtorEq, hb, he, hg]) | (refine qA ?_ ?_; (first | omega | (simp only [qL]; omega) | (simp only [qD] at *; omega))))
    exact Ret.mk ⟨rfl, rfl⟩
  · rw [decide_eq_true hi] at he
    rw [if_neg (by omega), decide_eq_false (by omega)]
    repeat (first | refine qS ?_ | refine qB ?_ | refine qT rfl ?_ | refine qF rfl ?_ | ((first | refine qR rfl ?_ | refine qK ?_ | refine qE ?_ | refine qW ?_ | refine qM ?_); try simp -dsimp (maxSteps := 2000000) (disch := first | omega | (simp only [qZ] <;> omega) | fail) only [push_cast, ↓qP, ↓reduceIte, Nat.reduceEqDiff, Nat.reduceAdd, Nat.reduceMul, Nat.reduceSub, Nat.reduceLeDiff, Int.reduceToNat, reduceCtorEq, hb, he]) | (refine qA ?_ ?_; (first | omega | (simp only [qL]; omega) | (simp only [qD] at *; omega))))
    exact Ret.mk ⟨rfl, rfl⟩

theorem take_any (h : Rd w a l i d) (p : List UInt8) : Calls Try.prog 89 #[.pointer (some ⟨a, 0, none⟩), .string (B p)] w fun e w' =>
    e = .returned (.bool (Lib.hasPrefix (l.drop i) p)) ∧ Rd w' a l (if Lib.hasPrefix (l.drop i) p then i + p.length else i) d ∧ Kp (fun b => b = a) w w' := by
  refine enter (n := 21) (args := [.pointer (some ⟨a, 0, none⟩), .string (B p)]) Try.func89 rfl rfl rfl (by simp) ?_
  have hb := h.blk.rdc
  have hz := h.blk.fz
  repeat (first | refine qS ?_ | refine qB ?_ | refine qT rfl ?_ | refine qF rfl ?_ | ((first | refine qR rfl ?_ | refine qK ?_ | refine qE ?_ | refine qW ?_ | refine qM ?_); try simp -dsimp (maxSteps := 2000000) (disch := first | omega | (simp only [qZ] <;> omega) | fail) only [push_cast, ↓qP, ↓reduceIte, Nat.reduceEqDiff, Nat.reduceAdd, Nat.reduceMul, Nat.reduceSub, Nat.reduceLeDiff, Int.reduceToNat, reduceCtorEq, hb]) | (refine qA ?_ ?_; (first | omega | (simp only [qL]; omega) | (simp only [qD] at *; omega))))
  refine CallV.of isCall_99 (Try.strings_CutPrefix _ _ _) ?_
  rintro _ _ ⟨rfl, rfl⟩
  rw [B_toList, B_toList, trim_of]
  refine Sm.out ?_
  repeat (first | refine qS ?_ | refine qB ?_ | refine qT rfl ?_ | refine qF rfl ?_ | ((first | refine qR rfl ?_ | refine qK ?_ | refine qE ?_ | refine qW ?_ | refine qM ?_); try simp -dsimp (maxSteps := 2000000) (disch := first | omega | (simp only [qZ] <;> omega) | fail) only [push_cast, ↓qP, ↓reduceIte, Nat.reduceEqDiff, Nat.reduceAdd, Nat.reduceMul, Nat.reduceSub, Nat.reduceLeDiff, Int.reduceToNat, reduceCtorEq, hb, hz]) | (refine qA ?_ ?_; (first | omega | (simp only [qL]; omega) | (simp only [qD] at *; omega))))
  refine Ret.mk ⟨rfl, ?_, (Kp.refl (fun b => b = a) _).setCell (fun _ => rfl) _⟩
  exact h.blk.set 0 _
theorem take_one (h : Rd w a l i d) (c : UInt8) : Calls Try.prog 89 #[.pointer (some ⟨a, 0, none⟩), .string (B [c])] w fun e w' =>
    e = .returned (.bool (hasAt l i c)) ∧ Rd w' a l (if hasAt l i c then i + 1 else i) d ∧ Kp (fun b => b = a) w w' := by
  have := take_any h [c]
  rw [pre1] at this
  exact this
theorem take_two (h : Rd w a l i d) (c e : UInt8) : Calls Try.prog 89 #[.pointer (some ⟨a, 0, none⟩), .string (B [c, e])] w fun e' w' =>
    e' = .returned (.bool (hasAt l i c && hasAt l (i + 1) e)) ∧ Rd w' a l (if (hasAt l i c && hasAt l (i + 1) e) then i + 2 else i) d ∧ Kp (fun b => b = a) w w' := by
  have := take_any h [c, e]
  rw [pre2] at this
  exact this

/-- Where a run of digits ends. -/
def runD (l : List UInt8) (g : UInt8) : Nat → Nat → Nat
  | 0, i => i
  | k + 1, i => if decide (i < l.length) && digs 48 g (byteAt l i) then runD l g k (i + 1) else i
theorem runD_le (l : List UInt8) (g : UInt8) : ∀ (k i : Nat), i ≤ runD l g k i ∧ runD l g k i ≤ max i l.length ∧ runD l g k i ≤ i + k
  | 0, i => by simp [runD]; omega
  | k + 1, i => by
    unfold runD
    split
    · rename_i h
      simp at h
      have := runD_le l g k (i + 1)
      omega
    · omega

theorem digits_any (h : Rd w a l i d) (hi : i ≤ l.length) (hl : l.length ≤ 1000000) (g : UInt8) (m : Nat) (hm : m ≤ 1000000) : Calls Try.prog 109 #[.pointer (some ⟨a, 0, none⟩), .int .u8 (g.toNat : Int), .int .i64 (m : Int)] w fun e w' =>
    e = .returned (.string (B ((l.drop i).take (runD l g m i - i)))) ∧ Rd w' a l (runD l g m i) d ∧ Kp (fun b => b = a) w w' := by
  refine enter (n := 58) (args := [.pointer (some ⟨a, 0, none⟩), .int .u8 (g.toNat : Int), .int .i64 (m : Int)]) Try.func109 rfl rfl rfl (by simp) ?_
  have hb := h.blk.rdc
  have hz := h.blk.fz
  have hlt := h.lt
  obtain ⟨N, hN⟩ : ∃ N, N = runD l g m i := ⟨_, rfl⟩
  rw [← hN]
  refine Sm.out ?_
  repeat (first | ((fail_if_success (first | refine qX (n := 0) ?_)); refine qS ?_) | refine qB ?_ | refine qT rfl ?_ | refine qF rfl ?_ | ((first | refine qR rfl ?_ | refine qK ?_ | refine qE ?_ | refine qW ?_ | refine qM ?_); try simp -dsimp (maxSteps := 2000000) (disch := first | omega | (simp only [qZ] <;> omega) | fail) only [push_cast, ↓qP, ↓reduceIte, Nat.reduceEqDiff, Nat.reduceAdd, Nat.reduceMul, Nat.reduceSub, Nat.reduceLeDiff, Int.reduceToNat, reduceCtorEq]) | (refine qA ?_ ?_; (first | omega | (simp only [qL]; omega) | (simp only [qD] at *; omega))))
  refine Wp.cut (fun F W => F 0 = .pointer (some ⟨a, 0, none⟩) ∧ F 7 = .int .i64 ((N : Int) - (i : Int)) ∧ W = w) ?_ ?_
  · refine Wp.block ?_
    refine Wp.loop (α := Nat) (fun k F W => F 0 = .pointer (some ⟨a, 0, none⟩) ∧ F 1 = .int .u8 (g.toNat : Int) ∧ F 2 = .int .i64 (m : Int) ∧ F 7 = .int .i64 (k : Int) ∧ k ≤ m ∧ i + k ≤ max i l.length ∧ runD l g (m - k) (i + k) = N ∧ W = w) (fun k => m - k) 0
      ⟨by simp [upd, arg], by simp [upd, arg], by simp [upd, arg], by simp [upd], by omega, by omega, by rw [hN]; rfl, rfl⟩ ?_
    rintro k F W ⟨f0, f1, f2, f7, hk, hki, hr, rfl⟩
    have hll : (l.drop i).length = l.length - i := by simp
    have stop : runD l g (m - k) (i + k) = i + k → (N : Int) - (i : Int) = k := by omega
    rcases Nat.lt_or_ge (i + k) l.length with h1 | h1
    case inr =>
      have c1 : decide ((k : Int) < (l.length : Int) - (i : Int)) = false := decide_eq_false (by omega)
      have : (N : Int) - (i : Int) = k := by
        refine stop ?_
        cases m - k with
        | zero => rfl
        | succ n => unfold runD; rw [decide_eq_false (by omega : ¬ i + k < l.length)]; rfl
      repeat (first | refine qS ?_ | refine qB ?_ | refine qT rfl ?_ | refine qF rfl ?_ | ((first | refine qR rfl ?_ | refine qK ?_ | refine qE ?_ | refine qW ?_ | refine qM ?_); try simp -dsimp (maxSteps := 2000000) (disch := first | omega | (simp only [qZ] <;> omega) | fail) only [push_cast, ↓qP, ↓reduceIte, Nat.reduceEqDiff, Nat.reduceAdd, Nat.reduceMul, Nat.reduceSub, Nat.reduceLeDiff, Int.reduceToNat, reduceCtorEq, f0, f7, hb, hll, c1]) | (refine qA ?_ ?_; (first | omega | (simp only [qL]; omega) | (simp only [qD] at *; omega))))
      exact Mid.mk ⟨by simp [upd, f0], by simp [upd, f7, this], rfl⟩
    have c1 : decide ((k : Int) < (l.length : Int) - (i : Int)) = true := decide_eq_true (by omega)
    rcases Nat.lt_or_ge k m with h2 | h2
    case inr =>
      have c2 : decide ((k : Int) < (m : Int)) = false := decide_eq_false (by omega)
      have : (N : Int) - (i : Int) = k := stop (by rw [show m - k = 0 by omega]; rfl)
      repeat (first | refine qS ?_ | refine qB ?_ | refine qT rfl ?_ | refine qF rfl ?_ | ((first | refine qR rfl ?_ | refine qK ?_ | refine qE ?_ | refine qW ?_ | refine qM ?_); try simp -dsimp (maxSteps := 2000000) (disch := first | omega | (simp only [qZ] <;> omega) | fail) only [push_cast, ↓qP, ↓reduceIte, Nat.reduceEqDiff, Nat.reduceAdd, Nat.reduceMul, Nat.reduceSub, Nat.reduceLeDiff, Int.reduceToNat, reduceCtorEq, f0, f2, f7, hb, hll, c1, c2]) | (refine qA ?_ ?_; (first | omega | (simp only [qL]; omega) | (simp only [qD] at *; omega))))
      exact Mid.mk ⟨by simp [upd, f0], by simp [upd, f7, this], rfl⟩
    have c2 : decide ((k : Int) < (m : Int)) = true := decide_eq_true (by omega)
    have hg := getD_drop l i k
    have hkl : k < (l.drop i).length := by omega
    have un : runD l g (m - k) (i + k) = if digs 48 g (byteAt l (i + k)) then runD l g (m - (k + 1)) (i + (k + 1)) else i + k := by
      rw [show m - k = (m - (k + 1)) + 1 by omega]
      show (if decide (i + k < l.length) && digs 48 g (byteAt l (i + k)) then _ else _) = _
      rw [decide_eq_true h1, Bool.true_and]; rfl
    unfold digs at un
    rcases Bool.eq_false_or_eq_true (decide ((48 : UInt8).toNat ≤ (byteAt l (i + k)).toNat)) with h3 | h3
    case inr =>
      have c3 : decide ((48 : Int) ≤ ((byteAt l (i + k)).toNat : Int)) = false := decide_eq_false (by have := of_decide_eq_false h3; have e : (48 : UInt8).toNat = 48 := rfl; omega)
      have : (N : Int) - (i : Int) = k := stop (by rw [un, h3]; rfl)
      repeat (first | refine qS ?_ | refine qB ?_ | refine qT rfl ?_ | refine qF rfl ?_ | ((first | refine qR rfl ?_ | refine qK ?_ | refine qE ?_ | refine qW ?_ | refine qM ?_); try simp -dsimp (maxSteps := 2000000) (disch := first | omega | (simp only [qZ] <;> omega) | fail) only [push_cast, ↓qP, ↓reduceIte, Nat.reduceEqDiff, Nat.reduceAdd, Nat.reduceMul, Nat.reduceSub, Nat.reduceLeDiff, Int.reduceToNat, reduceCtorEq, f0, f2, f7, hb, hll, c1, c2, hg, c3]) | (refine qA ?_ ?_; (first | omega | (simp only [qL]; omega) | (simp only [qD] at *; omega))))
      exact Mid.mk ⟨by simp [upd, f0], by simp [upd, f7, this], rfl⟩
    have c3 : decide ((48 : Int) ≤ ((byteAt l (i + k)).toNat : Int)) = true := decide_eq_true (by have := of_decide_eq_true h3; have e : (48 : UInt8).toNat = 48 := rfl; omega)
    rcases Bool.eq_false_or_eq_true (decide ((byteAt l (i + k)).toNat ≤ g.toNat)) with h4 | h4
    case inr =>
      have c4 : decide (((byteAt l (i + k)).toNat : Int) ≤ (g.toNat : Int)) = false := decide_eq_false (by have := of_decide_eq_false h4; omega)
      have : (N : Int) - (i : Int) = k := stop (by rw [un, h3, h4]; rfl)
      repeat (first | refine qS ?_ | refine qB ?_ | refine qT rfl ?_ | refine qF rfl ?_ | ((first | refine qR rfl ?_ | refine qK ?_ | refine qE ?_ | refine qW ?_ | refine qM ?_); try simp -dsimp (maxSteps := 2000000) (disch := first | omega | (simp only [qZ] <;> omega) | fail) only [push_cast, ↓qP, ↓reduceIte, Nat.reduceEqDiff, Nat.reduceAdd, Nat.reduceMul, Nat.reduceSub, Nat.reduceLeDiff, Int.reduceToNat, reduceCtorEq, f0, f1, f2, f7, hb, hll, c1, c2, hg, c3, c4]) | (refine qA ?_ ?_; (first | omega | (simp only [qL]; omega) | (simp only [qD] at *; omega))))
      exact Mid.mk ⟨by simp [upd, f0], by simp [upd, f7, this], rfl⟩
    have c4 : decide (((byteAt l (i + k)).toNat : Int) ≤ (g.toNat : Int)) = true := decide_eq_true (by have := of_decide_eq_true h4; omega)
    rw [h3, h4] at un
    repeat (first | refine qS ?_ | refine qB ?_ | refine qT rfl ?_ | refine qF rfl ?_ | ((first | refine qR rfl ?_ | refine qK ?_ | refine qE ?_ | refine qW ?_ | refine qM ?_); try simp -dsimp (maxSteps := 2000000) (disch := first | omega | (simp only [qZ] <;> omega) | fail) only [push_cast, ↓qP, ↓reduceIte, Nat.reduceEqDiff, Nat.reduceAdd, Nat.reduceMul, Nat.reduceSub, Nat.reduceLeDiff, Int.reduceToNat, reduceCtorEq, f0, f1, f2, f7, hb, hll, c1, c2, hg, c3, c4]) | (refine qA ?_ ?_; (first | omega | (simp only [qL]; omega) | (simp only [qD] at *; omega))))
    exact Again.mk (k + 1) ⟨by simp [upd, f0], by simp [upd, f1], by simp [upd, f2], by simp [upd], by omega, by omega, by rw [← hr, un]; rfl, rfl⟩ (by omega)
  rintro F W ⟨f0, f7, rfl⟩
  have hN1 := runD_le l g m i
  rw [← hN] at hN1
  have hll : (l.drop i).length = l.length - i := by simp
  have hNi : ((N : Int) - (i : Int)).toNat = N - i := by omega
  have hli : ((l.length : Int) - (i : Int)).toNat = l.length - i := by omega
  have htl : (l.drop i).drop (N - i) = l.drop N := by rw [List.drop_drop]; congr 1; omega
  have htt : ((l.drop N).take (l.length - i - (N - i))) = l.drop N := List.take_of_length_le (by simp; omega)
  repeat (first | refine qS ?_ | refine qB ?_ | refine qT rfl ?_ | refine qF rfl ?_ | ((first | refine qR rfl ?_ | refine qK ?_ | refine qE ?_ | refine qW ?_ | refine qM ?_); try simp -dsimp (maxSteps := 2000000) (disch := first | omega | (simp only [qZ] <;> omega) | fail) only [push_cast, ↓qP, ↓reduceIte, Nat.reduceEqDiff, Nat.reduceAdd, Nat.reduceMul, Nat.reduceSub, Nat.reduceLeDiff, Int.reduceToNat, reduceCtorEq, f0, f7, hb, hz, hll, hli, hNi, htl, htt, Nat.sub_zero]) | (refine qA ?_ ?_; (first | omega | (simp only [qL]; omega) | (simp only [qD] at *; omega))))
  exact Ret.mk ⟨rfl, h.blk.set 0 _, (Kp.refl (fun b => b = a) _).setCell (fun _ => rfl) _⟩
end
end Go.Proofs.Ytddichibegppjaa

/- The program's reader: escaped, count. -/
namespace Go.Proofs.Ytddichibegppjaa
open Go Go.VC Go.RowKit

def octF (x : List UInt8) (n : Nat) : Nat := x.foldl (fun n c => 8 * n + (c.toNat - 48)) n
theorem run_step {l : List UInt8} {g : UInt8} {k i : Nat} (h1 : i < l.length) (h2 : digs 48 g (byteAt l i) = true) : runD l g (k + 1) i = runD l g k (i + 1) ∧ (l.drop i).take (runD l g (k + 1) i - i) = byteAt l i :: (l.drop (i + 1)).take (runD l g k (i + 1) - (i + 1)) := by
  have e : runD l g (k + 1) i = runD l g k (i + 1) := by
    show (if decide (i < l.length) && digs 48 g (byteAt l i) then _ else _) = _
    rw [decide_eq_true h1, h2]; rfl
  have := runD_le l g k (i + 1)
  refine ⟨e, ?_⟩
  rw [e, drop_at h1, show runD l g k (i + 1) - i = (runD l g k (i + 1) - (i + 1)) + 1 by omega, List.take_succ_cons]
theorem run_stop {l : List UInt8} {g : UInt8} {k i : Nat} (h : (decide (i < l.length) && digs 48 g (byteAt l i)) = false) : runD l g k i = i := by
  cases k with
  | zero => rfl
  | succ k => unfold runD; rw [h]; rfl
theorem oct_run (l : List UInt8) : ∀ (k i n : Nat), oct3 l k i n = (octF ((l.drop i).take (runD l 55 k i - i)) n, runD l 55 k i)
  | 0, i, n => by simp [oct3, runD, octF]
  | k + 1, i, n => by
    unfold oct3
    by_cases h : (decide (i < l.length) && digs 48 55 (byteAt l i)) = true
    · rw [if_pos h, oct_run l k (i + 1)]
      simp only [Bool.and_eq_true, decide_eq_true_eq] at h
      obtain ⟨e1, e2⟩ := run_step (k := k) h.1 h.2
      rw [e2, e1]; rfl
    · rw [if_neg h, run_stop (by simpa using h)]
      simp [octF]
theorem run_digs (l : List UInt8) (g : UInt8) : ∀ (k i : Nat) (c : UInt8), c ∈ (l.drop i).take (runD l g k i - i) → digs 48 g c = true
  | 0, i, c, h => by simp [runD] at h
  | k + 1, i, c, h => by
    by_cases hc : (decide (i < l.length) && digs 48 g (byteAt l i)) = true
    · have hc' := hc
      simp only [Bool.and_eq_true, decide_eq_true_eq] at hc'
      obtain ⟨e1, e2⟩ := run_step (k := k) hc'.1 hc'.2
      rw [e2] at h
      rcases List.mem_cons.1 h with h | h
      · rw [h]; exact hc'.2
      · exact run_digs l g k (i + 1) c h
    · rw [run_stop (by simpa using hc)] at h
      simp at h
theorem esc_idx : ∀ n : Fin 256, (0 ≤ Lib.indexByte [97, 98, 116, 110, 118, 102, 114] (UInt8.ofNat n) ∧ Lib.indexByte [97, 98, 116, 110, 118, 102, 114] (UInt8.ofNat n) ≤ 6 ∧ ((escMap (UInt8.ofNat n)).toNat : Int) = 7 + Lib.indexByte [97, 98, 116, 110, 118, 102, 114] (UInt8.ofNat n)) ∨
    (Lib.indexByte [97, 98, 116, 110, 118, 102, 114] (UInt8.ofNat n) = -1 ∧ escMap (UInt8.ofNat n) = UInt8.ofNat n) := by decide +kernel
theorem esc_idx' (c : UInt8) : (0 ≤ Lib.indexByte [97, 98, 116, 110, 118, 102, 114] c ∧ Lib.indexByte [97, 98, 116, 110, 118, 102, 114] c ≤ 6 ∧ ((escMap c).toNat : Int) = 7 + Lib.indexByte [97, 98, 116, 110, 118, 102, 114] c) ∨
    (Lib.indexByte [97, 98, 116, 110, 118, 102, 114] c = -1 ∧ escMap c = c) := by
  have := esc_idx ⟨c.toNat, c.toNat_lt⟩
  simpa using this
theorem wrap8 (n : Nat) : IntKind.u8.wrap (n : Int) = ((UInt8.ofNat (n % 256)).toNat : Int) := by
  simp only [IntKind.wrap, IntKind.bits, IntKind.signed, Bool.false_and, Bool.false_eq_true, if_false]
  simp
theorem octF_snoc (x : List UInt8) (c : UInt8) (n : Nat) : octF (x ++ [c]) n = 8 * octF x n + (c.toNat - 48) := by simp [octF]
theorem octF_le : ∀ (x : List UInt8) (n : Nat), x.length ≤ 3 → (∀ c ∈ x, digs 48 55 c = true) → n = 0 → octF x n ≤ 511 := by
  intro x n hx hd hn
  subst hn
  have hb : ∀ c ∈ x, c.toNat - 48 ≤ 7 := by
    intro c hc
    have := hd c hc
    unfold digs at this
    simp only [Bool.and_eq_true, decide_eq_true_eq] at this
    have e : (55 : UInt8).toNat = 55 := rfl
    omega
  match x, hx with
  | [], _ => simp [octF]
  | [a], _ => have := hb a (by simp); simp [octF]; omega
  | [a, b], _ => have := hb a (by simp); have := hb b (by simp); simp [octF]; omega
  | [a, b, c], _ => have := hb a (by simp); have := hb b (by simp); have := hb c (by simp); simp [octF]; omega

section
variable {w : World} {a : Nat} {l : List UInt8} {i : Nat} {d : Int}
theorem digits_at (h : Rd w a l i d) (hi : i ≤ l.length) (hl : l.length ≤ 1000000) (g : UInt8) (m : Nat) (hm : m ≤ 1000000) (g' m' : Int) (hg : (g.toNat : Int) = g') (hm' : (m : Int) = m') : Calls Try.prog 109 #[.pointer (some ⟨a, 0, none⟩), .int .u8 g', .int .i64 m'] w fun e w' =>
    e = .returned (.string (B ((l.drop i).take (runD l g m i - i)))) ∧ Rd w' a l (runD l g m i) d ∧ Kp (fun b => b = a) w w' := by
  subst hg; subst hm'; exact digits_any h hi hl g m hm

theorem escaped_any {s : S3} (h : Rd w a l (s.i + 1) d) (hs : s.f = 0) (hd : s.d = d) (hi : s.i + 1 ≤ l.length) (hl : l.length ≤ 1000000) : Calls Try.prog 106 #[.pointer (some ⟨a, 0, none⟩)] w fun e w' =>
    ((escape3 l s).2.f = 0 ∧ e = .returned (.int .u8 ((escape3 l s).1.toNat : Int)) ∧ Rd w' a l (escape3 l s).2.i d ∧ Kp (fun b => b = a) w w') ∨ ((escape3 l s).2.f ≠ 0 ∧ Pn w a e w') := by
  refine enter (n := 56) (args := [.pointer (some ⟨a, 0, none⟩)]) Try.func106 rfl rfl rfl (by simp) ?_
  have hb := h.blk.rdc
  have he := empty_iff (l := l) (i := s.i + 1)
  rcases Nat.lt_or_ge (s.i + 1) l.length with h1 | h1
  case inr =>
    rw [decide_eq_true h1] at he
    have hm : more3 l s.on = false := by unfold more3 S3.on; simp; omega
    repeat (first | refine qS ?_ | refine qB ?_ | refine qT rfl ?_ | refine qF rfl ?_ | ((first | refine qR rfl ?_ | refine qK ?_ | refine qE ?_ | refine qW ?_ | refine qM ?_); try simp -dsimp (maxSteps := 2000000) (disch := first | omega | (simp only [qZ] <;> omega) | fail) only [push_cast, ↓qP, ↓reduceIte, Nat.reduceEqDiff, Nat.reduceAdd, Nat.reduceMul, Nat.reduceSub, Nat.reduceLeDiff, Int.reduceToNat, reduceCtorEq, hb, he]) | (refine qA ?_ ?_; (first | omega | (simp only [qL]; omega) | (simp only [qD] at *; omega))))
    refine Pan.mk (.inr ⟨?_, 4, rfl, by decide, by decide, Kp.refl _ _⟩)
    unfold escape3; rw [hm]
    exact fail_f _ (by decide)
  rw [decide_eq_false (by omega)] at he
  have hm : more3 l s.on = true := by unfold more3 S3.on; simp [hs]; omega
  obtain ⟨x, hx⟩ : ∃ x, x = (l.drop (s.i + 1)).take (runD l 55 3 (s.i + 1) - (s.i + 1)) := ⟨_, rfl⟩
  have hxd := run_digs l 55 3 (s.i + 1)
  have hN := runD_le l 55 3 (s.i + 1)
  rw [← hx] at hxd
  have hxl : x.length ≤ 3 := by rw [hx]; simp; omega
  repeat (first | refine qS ?_ | refine qB ?_ | refine qT rfl ?_ | refine qF rfl ?_ | ((first | refine qR rfl ?_ | refine qK ?_ | refine qE ?_ | refine qW ?_ | refine qM ?_); try simp -dsimp (maxSteps := 2000000) (disch := first | omega | (simp only [qZ] <;> omega) | fail) only [push_cast, ↓qP, ↓reduceIte, Nat.reduceEqDiff, Nat.reduceAdd, Nat.reduceMul, Nat.reduceSub, Nat.reduceLeDiff, Int.reduceToNat, reduceCtorEq, hb, he]) | (refine qA ?_ ?_; (first | omega | (simp only [qL]; omega) | (simp only [qD] at *; omega))))
  refine CallV.of isCall_109 (digits_at h hi hl 55 3 (by decide) 55 3 rfl rfl) ?_
  rintro _ w1 ⟨rfl, h2, k2⟩
  rw [← hx]
  by_cases hc : digs 48 55 (byteAt l (s.i + 1)) = true
  · have hxe : x ≠ [] := by
      obtain ⟨_, e2⟩ := run_step (k := 2) h1 hc
      rw [hx, e2]; simp
    have hxb : (x == []) = false := by simpa using hxe
    have ho := oct_run l 3 (s.i + 1) 0
    rw [← hx] at ho
    have e3 : escape3 l s = (UInt8.ofNat (octF x 0 % 256), { s with i := runD l 55 3 (s.i + 1) }) := by
      unfold escape3; rw [hm, if_pos rfl, if_pos hc, ho]
    have hle := octF_le x 0 hxl hxd rfl
    rw [e3]
    clear hx ho e3 hN he hb hm hc
    refine Sm.out ?_
    repeat (first | refine qS ?_ | refine qB ?_ | refine qT rfl ?_ | refine qF rfl ?_ | ((first | refine qR rfl ?_ | refine qK ?_ | refine qE ?_ | refine qW ?_ | refine qM ?_); try simp -dsimp (maxSteps := 2000000) (disch := first | omega | (simp only [qZ] <;> omega) | fail) only [push_cast, ↓qP, ↓reduceIte, Nat.reduceEqDiff, Nat.reduceAdd, Nat.reduceMul, Nat.reduceSub, Nat.reduceLeDiff, Int.reduceToNat, reduceCtorEq, hxb]) | (refine qA ?_ ?_; (first | omega | (simp only [qL]; omega) | (simp only [qD] at *; omega))))
    obtain ⟨q, hq⟩ : ∃ q, q = w1.heap.size := ⟨_, rfl⟩
    refine V_bytes 9 63 _ rfl se_63 ik_5 isStr_9 x rfl ?_
    intro cap w2 k3 hsz hr
    rw [← hq] at hsz hr
    have k4 : Kp (fun b => b = a) w w2 := k2.trans (k3.mono (fun _ _ h => h.elim))
    have h3 : Rd w2 a l (runD l 55 3 (s.i + 1)) d := h2.keep k3 id
    refine Sm.out ?_
    repeat (first | refine qS ?_ | refine qB ?_ | refine qT rfl ?_ | refine qF rfl ?_ | ((first | refine qR rfl ?_ | refine qK ?_ | refine qE ?_ | refine qW ?_ | refine qM ?_); try simp -dsimp (maxSteps := 2000000) (disch := first | omega | (simp only [qZ] <;> omega) | fail) only [push_cast, ↓qP, ↓reduceIte, Nat.reduceEqDiff, Nat.reduceAdd, Nat.reduceMul, Nat.reduceSub, Nat.reduceLeDiff, Int.reduceToNat, reduceCtorEq]) | (refine qA ?_ ?_; (first | omega | (simp only [qL]; omega) | (simp only [qD] at *; omega))))
    rw [← hq]
    refine Wp.loop (α := Nat) (fun j F W => F 4 = .int .i64 (octF (x.take j) 0 : Nat) ∧ F 20 = .slice (some ⟨q, 0, none⟩) x.length cap ∧ F 21 = .int .i64 (x.length : Int) ∧ F 22 = .int .i64 (j : Int) ∧ j ≤ x.length ∧ W = w2) (fun j => x.length - j) 0
      ⟨by simp [upd, octF], by simp [upd], by simp [upd], by simp [upd], by omega, rfl⟩ ?_
    rintro j F W ⟨f4, f20, f21, f22, hj, rfl⟩
    rcases Nat.lt_or_ge j x.length with hlt | hge
    · have c1 : decide ((j : Int) < (x.length : Int)) = true := decide_eq_true (by omega)
      have r1 := hr j hlt
      have hxj := hxd x[j] (List.getElem_mem hlt)
      unfold digs at hxj
      simp only [Bool.and_eq_true, decide_eq_true_eq] at hxj
      have e5 : (55 : UInt8).toNat = 55 := rfl
      have e4 : (48 : UInt8).toNat = 48 := rfl
      have hle2 := octF_le (x.take j) 0 (by simp; omega) (fun c hc => hxd c (List.mem_of_mem_take hc)) rfl
      have hsn : octF (x.take (j + 1)) 0 = 8 * octF (x.take j) 0 + (x[j].toNat - 48) := by rw [List.take_succ_eq_append_getElem hlt, octF_snoc]
      unfold by8 at r1
      repeat (first | refine qS ?_ | refine qB ?_ | refine qT rfl ?_ | refine qF rfl ?_ | ((first | refine qR rfl ?_ | refine qK ?_ | refine qE ?_ | refine qW ?_ | refine qM ?_); try simp -dsimp (maxSteps := 2000000) (disch := first | omega | (simp only [qZ] <;> omega) | fail) only [push_cast, ↓qP, ↓reduceIte, Nat.reduceEqDiff, Nat.reduceAdd, Nat.reduceMul, Nat.reduceSub, Nat.reduceLeDiff, Int.reduceToNat, reduceCtorEq, f4, f20, f21, f22, c1, r1]) | (refine qA ?_ ?_; (first | omega | (simp only [qL]; omega) | (simp only [qD] at *; omega))))
      exact Again.mk (j + 1) ⟨by simp [upd, hsn]; omega, by simp [upd, f20], by simp [upd, f21], by simp [upd], by omega, rfl⟩ (by omega)
    · obtain rfl : j = x.length := by omega
      have c1 : decide ((x.length : Int) < (x.length : Int)) = false := decide_eq_false (by omega)
      rw [List.take_length] at f4
      have hw8 := wrap8 (octF x 0)
      repeat (first | refine qS ?_ | refine qB ?_ | refine qT rfl ?_ | refine qF rfl ?_ | ((first | refine qR rfl ?_ | refine qK ?_ | refine qE ?_ | refine qW ?_ | refine qM ?_); try simp -dsimp (maxSteps := 2000000) (disch := first | omega | (simp only [qZ] <;> omega) | fail) only [push_cast, ↓qP, ↓reduceIte, Nat.reduceEqDiff, Nat.reduceAdd, Nat.reduceMul, Nat.reduceSub, Nat.reduceLeDiff, Int.reduceToNat, reduceCtorEq, f4, f20, f21, f22, c1, hw8]) | (refine qA ?_ ?_; (first | omega | (simp only [qL]; omega) | (simp only [qD] at *; omega))))
      exact Ret.mk (.inl ⟨hs, rfl, h3, k4⟩)
  · have hst : runD l 55 3 (s.i + 1) = s.i + 1 := run_stop (by rw [decide_eq_true h1]; simpa using hc)
    have hxe : x = [] := by rw [hx, hst]; simp
    subst hxe
    rw [hst] at h2
    have hb2 := h2.blk.rdc
    have hz2 := h2.blk.fz
    have hg := getD_drop l (s.i + 1) 0
    have hll : (l.drop (s.i + 1)).length = l.length - (s.i + 1) := by simp
    have hlt2 := h2.lt
    have e3 : escape3 l s = (escMap (byteAt l (s.i + 1)), s.on 2) := by
      unfold escape3; rw [hm, if_pos rfl, if_neg hc]
    rw [e3]
    have htt : ((l.drop (s.i + 2)).take (l.length - (s.i + 1) - 1)) = l.drop (s.i + 2) := List.take_of_length_le (by simp; omega)
    have hdd : (l.drop (s.i + 1)).drop 1 = l.drop (s.i + 2) := by rw [List.drop_drop]
    have hli : ((l.length : Int) - ((s.i : Int) + 1)).toNat = l.length - (s.i + 1) := by omega
    refine Sm.out ?_
    repeat (first | refine qS ?_ | refine qB ?_ | refine qT rfl ?_ | refine qF rfl ?_ | ((first | refine qR rfl ?_ | refine qK ?_ | refine qE ?_ | refine qW ?_ | refine qM ?_); try simp -dsimp (maxSteps := 2000000) (disch := first | omega | (simp only [qZ] <;> omega) | fail) only [push_cast, ↓qP, ↓reduceIte, Nat.reduceEqDiff, Nat.reduceAdd, Nat.reduceMul, Nat.reduceSub, Nat.reduceLeDiff, Int.reduceToNat, reduceCtorEq, hb2, hz2, hg, hll, hli, hdd, htt]) | (refine qA ?_ ?_; (first | omega | (simp only [qL]; omega) | (simp only [qD] at *; omega))))
    refine CallV.of isCall_113 (Try.strings_IndexByte _ _ _) ?_
    rintro _ _ ⟨rfl, rfl⟩
    have hcc : (((byteAt l (s.i + 1)).toNat : Int)).toNat.toUInt8 = byteAt l (s.i + 1) := by simp
    rw [hcc, B_toList]
    have kk : Kp (fun b => b = a) w (w1.setCell ⟨a, 0, none⟩ (.string (B (l.drop (s.i + 2))))) := k2.setCell (fun _ => rfl) _
    have hr : Rd (w1.setCell ⟨a, 0, none⟩ (.string (B (l.drop (s.i + 2))))) a l (s.i + 2) d := h2.blk.set 0 _
    rcases esc_idx' (byteAt l (s.i + 1)) with ⟨g1, g2, g3⟩ | ⟨g1, g2⟩
    · generalize Lib.indexByte [97, 98, 116, 110, 118, 102, 114] (byteAt l (s.i + 1)) = k at *
      have c1 : decide (k ≥ 0) = true := decide_eq_true g1
      refine Sm.out ?_
      repeat (first | refine qS ?_ | refine qB ?_ | refine qT rfl ?_ | refine qF rfl ?_ | ((first | refine qR rfl ?_ | refine qK ?_ | refine qE ?_ | refine qW ?_ | refine qM ?_); try simp -dsimp (maxSteps := 2000000) (disch := first | omega | (simp only [qZ] <;> omega) | fail) only [push_cast, ↓qP, ↓reduceIte, Nat.reduceEqDiff, Nat.reduceAdd, Nat.reduceMul, Nat.reduceSub, Nat.reduceLeDiff, Int.reduceToNat, reduceCtorEq, c1]) | (refine qA ?_ ?_; (first | omega | (simp only [qL]; omega) | (simp only [qD] at *; omega))))
      exact Ret.mk (.inl ⟨hs, by rw [g3], hr, kk⟩)
    · rw [g1, g2]
      have c1 : decide ((-1 : Int) ≥ 0) = false := rfl
      refine Sm.out ?_
      repeat (first | refine qS ?_ | refine qB ?_ | refine qT rfl ?_ | refine qF rfl ?_ | ((first | refine qR rfl ?_ | refine qK ?_ | refine qE ?_ | refine qW ?_ | refine qM ?_); try simp -dsimp (maxSteps := 2000000) (disch := first | omega | (simp only [qZ] <;> omega) | fail) only [push_cast, ↓qP, ↓reduceIte, Nat.reduceEqDiff, Nat.reduceAdd, Nat.reduceMul, Nat.reduceSub, Nat.reduceLeDiff, Int.reduceToNat, reduceCtorEq, c1]) | (refine qA ?_ ?_; (first | omega | (simp only [qL]; omega) | (simp only [qD] at *; omega))))
      exact Ret.mk (.inl ⟨hs, rfl, hr, kk⟩)
end
end Go.Proofs.Ytddichibegppjaa

/- The program's reader: count, interval, repeat. -/
namespace Go.Proofs.Ytddichibegppjaa
open Go Go.VC Go.RowKit

def decF (x : List UInt8) (n : Nat) : Nat := x.foldl (fun n c => 10 * n + (c.toNat - 48)) n
theorem decF_ge : ∀ (x : List UInt8) (n : Nat), n ≤ decF x n
  | [], n => Nat.le_refl _
  | c :: x, n => by
    have := decF_ge x (10 * n + (c.toNat - 48))
    simp only [decF, List.foldl_cons] at this ⊢
    omega
theorem decF_app (x y : List UInt8) (n : Nat) : decF (x ++ y) n = decF y (decF x n) := by simp [decF]
theorem decF_take (x : List UInt8) (j : Nat) : decF (x.take j) 0 ≤ decF x 0 := by
  conv => rhs; rw [← List.take_append_drop j x]
  rw [decF_app]; exact decF_ge _ _
theorem decF_snoc (x : List UInt8) (c : UInt8) (n : Nat) : decF (x ++ [c]) n = 10 * decF x n + (c.toNat - 48) := by simp [decF]
theorem dig_range {g c : UInt8} (h : digs 48 g c = true) : 48 ≤ c.toNat ∧ c.toNat ≤ g.toNat := by
  unfold digs at h
  simp only [Bool.and_eq_true, decide_eq_true_eq] at h
  exact h
theorem num_run (l : List UInt8) : ∀ (k i : Nat) (n : Nat) (b : Bool), num3 l k i (min n 1000 : Nat) b =
    ((((min (decF ((l.drop i).take (runD l 57 k i - i)) n) 1000 : Nat) : Int), b || decide (i < runD l 57 k i)), runD l 57 k i)
  | 0, i, n, b => by simp [num3, runD, decF]
  | k + 1, i, n, b => by
    unfold num3
    by_cases h : (decide (i < l.length) && digs 48 57 (byteAt l i)) = true
    · rw [if_pos h]
      simp only [Bool.and_eq_true, decide_eq_true_eq] at h
      obtain ⟨e1, e2⟩ := run_step (k := k) h.1 h.2
      have hr := dig_range h.2
      have e57 : (57 : UInt8).toNat = 57 := rfl
      have e3 : (min (10 * ((min n 1000 : Nat) : Int) + (((byteAt l i).toNat : Int) - 48)) 1000) = ((min (10 * n + ((byteAt l i).toNat - 48)) 1000 : Nat) : Int) := by omega
      rw [e3, num_run l k (i + 1)]
      have hle := runD_le l 57 k (i + 1)
      rw [e2, e1, decide_eq_true (by omega : i < runD l 57 k (i + 1))]
      simp [decF]
    · rw [if_neg h, run_stop (by simpa using h)]
      simp [decF]
theorem run_fuel (l : List UInt8) (g : UInt8) : ∀ (k i : Nat), l.length ≤ i + k → runD l g k i = runD l g (l.length - i) i
  | 0, i, h => by rw [show l.length - i = 0 by omega]
  | k + 1, i, h => by
    by_cases hc : (decide (i < l.length) && digs 48 g (byteAt l i)) = true
    · have hc' := hc
      simp only [Bool.and_eq_true, decide_eq_true_eq] at hc'
      have e1 := (run_step (k := k) hc'.1 hc'.2).1
      have e2 := (run_step (k := l.length - (i + 1)) hc'.1 hc'.2).1
      rw [e1, show l.length - i = (l.length - (i + 1)) + 1 by omega, e2]
      exact run_fuel l g k (i + 1) (by omega)
    · rw [run_stop (by simpa using hc), run_stop (by simpa using hc)]
/-- The digits that stand at a place. -/
def dE (l : List UInt8) (i : Nat) : Nat := runD l 57 (l.length - i) i
def dX (l : List UInt8) (i : Nat) : List UInt8 := (l.drop i).take (dE l i - i)
theorem digit_eq (l : List UInt8) (s : S3) : digit3 l s = ((((min (decF (dX l s.i) 0) 1000 : Nat) : Int), decide (s.i < dE l s.i)), { s with i := dE l s.i }) := by
  unfold digit3
  have := num_run l l.length s.i 0 false
  rw [Nat.zero_min, Bool.false_or, run_fuel l 57 l.length s.i (by omega)] at this
  have e : num3 l l.length s.i 0 false = _ := this
  rw [e]
  rfl
theorem dE_le (l : List UInt8) (i : Nat) : i ≤ dE l i ∧ dE l i ≤ max i l.length := by have := runD_le l 57 (l.length - i) i; unfold dE; omega
theorem dX_digs (l : List UInt8) (i : Nat) : ∀ c ∈ dX l i, digs 48 57 c = true := fun c h => run_digs l 57 _ i c h
theorem dX_len (l : List UInt8) (i : Nat) : (dX l i).length ≤ l.length := by unfold dX; simp; omega
theorem dX_nil (l : List UInt8) (i : Nat) (hi : i ≤ l.length) : (dX l i == []) = decide (dE l i ≤ i) := by
  have := dE_le l i
  rw [Bool.eq_iff_iff, beq_iff_eq, decide_eq_true_eq]
  unfold dX
  rw [List.take_eq_nil_iff, List.drop_eq_nil_iff]
  omega

theorem count_any (w : World) (x : List UInt8) (hx : x.length ≤ 1000000) (hd : ∀ c ∈ x, digs 48 57 c = true) : Calls Try.prog 110 #[.string (B x)] w fun e w' =>
    (decF x 0 ≤ 255 ∧ e = .returned (.int .i64 (decF x 0 : Nat)) ∧ Kp (fun _ => False) w w') ∨ (¬ decF x 0 ≤ 255 ∧ e = .panicked (flt 3) ∧ Kp (fun _ => False) w w') := by
  refine enter (n := 24) (args := [.string (B x)]) Try.func110 rfl rfl rfl (by simp) ?_
  repeat (first | refine qS ?_ | refine qB ?_ | refine qT rfl ?_ | refine qF rfl ?_ | ((first | refine qR rfl ?_ | refine qK ?_ | refine qE ?_ | refine qW ?_ | refine qM ?_); try simp -dsimp (maxSteps := 2000000) (disch := first | omega | (simp only [qZ] <;> omega) | fail) only [push_cast, ↓qP, ↓reduceIte, Nat.reduceEqDiff, Nat.reduceAdd, Nat.reduceMul, Nat.reduceSub, Nat.reduceLeDiff, Int.reduceToNat, reduceCtorEq]) | (refine qA ?_ ?_; (first | omega | (simp only [qL]; omega) | (simp only [qD] at *; omega))))
  obtain ⟨q, hq⟩ : ∃ q, q = w.heap.size := ⟨_, rfl⟩
  refine V_bytes 9 63 _ rfl se_63 ik_5 isStr_9 x rfl ?_
  intro cap w2 k3 hsz hr
  rw [← hq] at hsz hr
  refine Sm.out ?_
  repeat (first | refine qS ?_ | refine qB ?_ | refine qT rfl ?_ | refine qF rfl ?_ | ((first | refine qR rfl ?_ | refine qK ?_ | refine qE ?_ | refine qW ?_ | refine qM ?_); try simp -dsimp (maxSteps := 2000000) (disch := first | omega | (simp only [qZ] <;> omega) | fail) only [push_cast, ↓qP, ↓reduceIte, Nat.reduceEqDiff, Nat.reduceAdd, Nat.reduceMul, Nat.reduceSub, Nat.reduceLeDiff, Int.reduceToNat, reduceCtorEq]) | (refine qA ?_ ?_; (first | omega | (simp only [qL]; omega) | (simp only [qD] at *; omega))))
  rw [← hq]
  refine Wp.loop (α := Nat) (fun j F W => F 3 = .int .i64 (decF (x.take j) 0 : Nat) ∧ F 7 = .slice (some ⟨q, 0, none⟩) x.length cap ∧ F 8 = .int .i64 (x.length : Int) ∧ F 9 = .int .i64 (j : Int) ∧ j ≤ x.length ∧ decF (x.take j) 0 ≤ 255 ∧ W = w2) (fun j => x.length - j) 0
    ⟨by simp [upd, decF], by simp [upd], by simp [upd], by simp [upd], by omega, by simp [decF], rfl⟩ ?_
  rintro j F W ⟨f3, f7, f8, f9, hj, hle, rfl⟩
  rcases Nat.lt_or_ge j x.length with hlt | hge
  · have c1 : decide ((j : Int) < (x.length : Int)) = true := decide_eq_true (by omega)
    have r1 := hr j hlt
    have hxj := dig_range (hd x[j] (List.getElem_mem hlt))
    have e5 : (57 : UInt8).toNat = 57 := rfl
    have hsn : decF (x.take (j + 1)) 0 = 10 * decF (x.take j) 0 + (x[j].toNat - 48) := by rw [List.take_succ_eq_append_getElem hlt, decF_snoc]
    have hmo := decF_take x (j + 1)
    have hv : ((decF (x.take j) 0 : Nat) : Int) * 10 + (((x[j].toNat : Nat) : Int) - 48) = (decF (x.take (j + 1)) 0 : Nat) := by omega
    generalize hv1 : decF (x.take (j + 1)) 0 = v1 at *
    unfold by8 at r1
    rcases Nat.lt_or_ge 255 v1 with h1 | h1
    · have c2 : decide ((v1 : Int) > 255) = true := decide_eq_true (by omega)
      repeat (first | refine qS ?_ | refine qB ?_ | refine qT rfl ?_ | refine qF rfl ?_ | ((first | refine qR rfl ?_ | refine qK ?_ | refine qE ?_ | refine qW ?_ | refine qM ?_); try simp -dsimp (maxSteps := 2000000) (disch := first | omega | (simp only [qZ] <;> omega) | fail) only [push_cast, ↓qP, ↓reduceIte, Nat.reduceEqDiff, Nat.reduceAdd, Nat.reduceMul, Nat.reduceSub, Nat.reduceLeDiff, Int.reduceToNat, reduceCtorEq, f3, f7, f8, f9, c1, r1, hv, c2]) | (refine qA ?_ ?_; (first | omega | (simp only [qL]; omega) | (simp only [qD] at *; omega))))
      exact Pan.mk (.inr ⟨by omega, rfl, k3⟩)
    · have c2 : decide ((v1 : Int) > 255) = false := decide_eq_false (by omega)
      repeat (first | refine qS ?_ | refine qB ?_ | refine qT rfl ?_ | refine qF rfl ?_ | ((first | refine qR rfl ?_ | refine qK ?_ | refine qE ?_ | refine qW ?_ | refine qM ?_); try simp -dsimp (maxSteps := 2000000) (disch := first | omega | (simp only [qZ] <;> omega) | fail) only [push_cast, ↓qP, ↓reduceIte, Nat.reduceEqDiff, Nat.reduceAdd, Nat.reduceMul, Nat.reduceSub, Nat.reduceLeDiff, Int.reduceToNat, reduceCtorEq, f3, f7, f8, f9, c1, r1, hv, c2]) | (refine qA ?_ ?_; (first | omega | (simp only [qL]; omega) | (simp only [qD] at *; omega))))
      exact Again.mk (j + 1) ⟨by simp [upd, hv1], by simp [upd, f7], by simp [upd, f8], by simp [upd], by omega, by omega, rfl⟩ (by omega)
  · obtain rfl : j = x.length := by omega
    have c1 : decide ((x.length : Int) < (x.length : Int)) = false := decide_eq_false (by omega)
    rw [List.take_length] at f3 hle
    repeat (first | refine qS ?_ | refine qB ?_ | refine qT rfl ?_ | refine qF rfl ?_ | ((first | refine qR rfl ?_ | refine qK ?_ | refine qE ?_ | refine qW ?_ | refine qM ?_); try simp -dsimp (maxSteps := 2000000) (disch := first | omega | (simp only [qZ] <;> omega) | fail) only [push_cast, ↓qP, ↓reduceIte, Nat.reduceEqDiff, Nat.reduceAdd, Nat.reduceMul, Nat.reduceSub, Nat.reduceLeDiff, Int.reduceToNat, reduceCtorEq, f3, f7, f8, f9, c1]) | (refine qA ?_ ?_; (first | omega | (simp only [qL]; omega) | (simp only [qD] at *; omega))))
    exact Ret.mk (.inl ⟨hle, rfl, k3⟩)
end Go.Proofs.Ytddichibegppjaa

/- The program's reader: interval, repeat. -/
namespace Go.Proofs.Ytddichibegppjaa
open Go Go.VC Go.RowKit

def ivTo (l : List UInt8) (i : Nat) : List UInt8 := if hasAt l (dE l i) 44 then dX l (dE l i + 1) else dX l i
def ivEnd (l : List UInt8) (i : Nat) : Nat := if hasAt l (dE l i) 44 then dE l (dE l i + 1) else dE l i
def ivHi (l : List UInt8) (i : Nat) : Int := if ivTo l i = [] then -1 else (decF (ivTo l i) 0 : Nat)
def ivOk (l : List UInt8) (i : Nat) : Prop := hasAt l (ivEnd l i) 125 = true ∧ decF (dX l i) 0 ≤ 255 ∧ decF (ivTo l i) 0 ≤ 255 ∧ (ivTo l i = [] ∨ decF (dX l i) 0 ≤ decF (ivTo l i) 0)
theorem hasAt_lt {l : List UInt8} {i : Nat} {c : UInt8} (h : hasAt l i c = true) : i < l.length := by
  unfold hasAt at h; simp only [Bool.and_eq_true, decide_eq_true_eq] at h; exact h.1
theorem ivEnd_le (l : List UInt8) (i : Nat) (hi : i ≤ l.length) : ivEnd l i ≤ l.length := by
  unfold ivEnd
  have := dE_le l i
  split
  · rename_i h
    have := hasAt_lt h
    have := dE_le l (dE l i + 1)
    omega
  · omega
theorem ivTo_digs (l : List UInt8) (i : Nat) : ∀ c ∈ ivTo l i, digs 48 57 c = true := by
  unfold ivTo; split <;> exact dX_digs l _
theorem ivTo_len (l : List UInt8) (i : Nat) : (ivTo l i).length ≤ l.length := by
  unfold ivTo; split <;> exact dX_len l _

section
variable {w : World} {a : Nat} {l : List UInt8} {i : Nat} {d : Int}
theorem flt_any {w' : World} (k : Kp (fun b => b = a) w w') : Pn w a (.panicked (flt 3)) w' := ⟨3, rfl, by decide, by decide, k⟩

theorem interval_any (h : Rd w a l i d) (hi : i ≤ l.length) (hl : l.length ≤ 1000000) : Calls Try.prog 102 #[.pointer (some ⟨a, 0, none⟩)] w fun e w' =>
    (ivOk l i ∧ e = .returned (.tuple #[.int .i64 (decF (dX l i) 0 : Nat), .int .i64 (ivHi l i)]) ∧ Rd w' a l (ivEnd l i + 1) d ∧ Kp (fun b => b = a) w w') ∨ (¬ ivOk l i ∧ Pn w a e w') := by
  refine enter (n := 48) (args := [.pointer (some ⟨a, 0, none⟩)]) Try.func102 rfl rfl rfl (by simp) ?_
  have hb := h.blk.rdc
  have hll : (l.drop i).length = l.length - i := by simp
  have hN := dE_le l i
  repeat (first | refine qS ?_ | refine qB ?_ | refine qT rfl ?_ | refine qF rfl ?_ | ((first | refine qR rfl ?_ | refine qK ?_ | refine qE ?_ | refine qW ?_ | refine qM ?_); try simp -dsimp (maxSteps := 2000000) (disch := first | omega | (simp only [qZ] <;> omega) | fail) only [push_cast, ↓qP, ↓reduceIte, Nat.reduceEqDiff, Nat.reduceAdd, Nat.reduceMul, Nat.reduceSub, Nat.reduceLeDiff, Int.reduceToNat, reduceCtorEq, hb, hll]) | (refine qA ?_ ?_; (first | omega | (simp only [qL]; omega) | (simp only [qD] at *; omega))))
  refine CallV.of isCall_109 (digits_at h hi hl 57 (l.length - i) (by omega) 57 _ rfl (by omega)) ?_
  rintro _ w1 ⟨rfl, h1, k1⟩
  refine Sm.out ?_
  repeat (first | ((fail_if_success (first | refine qY (n := 3) ?_ | refine qV (n := 3) ?_)); refine qS ?_) | refine qB ?_ | refine qT rfl ?_ | refine qF rfl ?_ | ((first | refine qR rfl ?_ | refine qK ?_ | refine qE ?_ | refine qW ?_ | refine qM ?_); try simp -dsimp (maxSteps := 2000000) (disch := first | omega | (simp only [qZ] <;> omega) | fail) only [push_cast, ↓qP, ↓reduceIte, Nat.reduceEqDiff, Nat.reduceAdd, Nat.reduceMul, Nat.reduceSub, Nat.reduceLeDiff, Int.reduceToNat, reduceCtorEq]) | (refine qA ?_ ?_; (first | omega | (simp only [qL]; omega) | (simp only [qD] at *; omega))))
  refine Wp.cut (fun F W => F 0 = .pointer (some ⟨a, 0, none⟩) ∧ F 4 = .string (B (dX l i)) ∧ F 5 = .string (B (ivTo l i)) ∧ Rd W a l (ivEnd l i) d ∧ Kp (fun b => b = a) w W) ?_ ?_
  · have h1' : Rd w1 a l (dE l i) d := h1
    have hlt := h1'.lt
    repeat (first | refine qS ?_ | refine qB ?_ | refine qT rfl ?_ | refine qF rfl ?_ | ((first | refine qR rfl ?_ | refine qK ?_ | refine qE ?_ | refine qW ?_ | refine qM ?_); try simp -dsimp (maxSteps := 2000000) (disch := first | omega | (simp only [qZ] <;> omega) | fail) only [push_cast, ↓qP, ↓reduceIte, Nat.reduceEqDiff, Nat.reduceAdd, Nat.reduceMul, Nat.reduceSub, Nat.reduceLeDiff, Int.reduceToNat, reduceCtorEq]) | (refine qA ?_ ?_; (first | omega | (simp only [qL]; omega) | (simp only [qD] at *; omega))))
    refine CallV.of isCall_89 (take_one h1' 44) ?_
    rintro _ w2 ⟨rfl, h2, k2⟩
    cases hc : hasAt l (dE l i) 44 with
    | false =>
      rw [hc] at h2
      have e1 : ivTo l i = dX l i := by unfold ivTo; rw [hc]; rfl
      have e2 : ivEnd l i = dE l i := by unfold ivEnd; rw [hc]; rfl
      refine Sm.out ?_
      repeat (first | refine qS ?_ | refine qB ?_ | refine qT rfl ?_ | refine qF rfl ?_ | ((first | refine qR rfl ?_ | refine qK ?_ | refine qE ?_ | refine qW ?_ | refine qM ?_); try simp -dsimp (maxSteps := 2000000) (disch := first | omega | (simp only [qZ] <;> omega) | fail) only [push_cast, ↓qP, ↓reduceIte, Nat.reduceEqDiff, Nat.reduceAdd, Nat.reduceMul, Nat.reduceSub, Nat.reduceLeDiff, Int.reduceToNat, reduceCtorEq]) | (refine qA ?_ ?_; (first | omega | (simp only [qL]; omega) | (simp only [qD] at *; omega))))
      exact Mid.mk ⟨by simp [upd, arg], by simp [upd]; rfl, by simp [upd, e1]; rfl, by rw [e2]; exact h2, k1.trans k2⟩
    | true =>
      rw [hc] at h2
      have h2' : Rd w2 a l (dE l i + 1) d := h2
      have hcl := hasAt_lt hc
      have e1 : ivTo l i = dX l (dE l i + 1) := by unfold ivTo; rw [hc]; rfl
      have e2 : ivEnd l i = dE l (dE l i + 1) := by unfold ivEnd; rw [hc]; rfl
      have hb2 := h2'.blk.rdc
      have hll2 : (l.drop (dE l i + 1)).length = l.length - (dE l i + 1) := by simp
      refine Sm.out ?_
      repeat (first | refine qS ?_ | refine qB ?_ | refine qT rfl ?_ | refine qF rfl ?_ | ((first | refine qR rfl ?_ | refine qK ?_ | refine qE ?_ | refine qW ?_ | refine qM ?_); try simp -dsimp (maxSteps := 2000000) (disch := first | omega | (simp only [qZ] <;> omega) | fail) only [push_cast, ↓qP, ↓reduceIte, Nat.reduceEqDiff, Nat.reduceAdd, Nat.reduceMul, Nat.reduceSub, Nat.reduceLeDiff, Int.reduceToNat, reduceCtorEq, hb2, hll2]) | (refine qA ?_ ?_; (first | omega | (simp only [qL]; omega) | (simp only [qD] at *; omega))))
      refine CallV.of isCall_109 (digits_at h2' (by omega) hl 57 (l.length - (dE l i + 1)) (by omega) 57 _ rfl (by omega)) ?_
      rintro _ w3 ⟨rfl, h3, k3⟩
      refine Sm.out ?_
      repeat (first | refine qS ?_ | refine qB ?_ | refine qT rfl ?_ | refine qF rfl ?_ | ((first | refine qR rfl ?_ | refine qK ?_ | refine qE ?_ | refine qW ?_ | refine qM ?_); try simp -dsimp (maxSteps := 2000000) (disch := first | omega | (simp only [qZ] <;> omega) | fail) only [push_cast, ↓qP, ↓reduceIte, Nat.reduceEqDiff, Nat.reduceAdd, Nat.reduceMul, Nat.reduceSub, Nat.reduceLeDiff, Int.reduceToNat, reduceCtorEq]) | (refine qA ?_ ?_; (first | omega | (simp only [qL]; omega) | (simp only [qD] at *; omega))))
      exact Mid.mk ⟨by simp [upd, arg], by simp [upd]; rfl, by simp [upd, e1]; rfl, by rw [e2]; exact h3, (k1.trans k2).trans k3⟩
  clear h hb hll hN h1 k1
  rintro F W ⟨f0, f4, f5, h1, k1⟩
  have hE := ivEnd_le l i hi
  repeat (first | refine qS ?_ | refine qB ?_ | refine qT rfl ?_ | refine qF rfl ?_ | ((first | refine qR rfl ?_ | refine qK ?_ | refine qE ?_ | refine qW ?_ | refine qM ?_); try simp -dsimp (maxSteps := 2000000) (disch := first | omega | (simp only [qZ] <;> omega) | fail) only [push_cast, ↓qP, ↓reduceIte, Nat.reduceEqDiff, Nat.reduceAdd, Nat.reduceMul, Nat.reduceSub, Nat.reduceLeDiff, Int.reduceToNat, reduceCtorEq, f0]) | (refine qA ?_ ?_; (first | omega | (simp only [qL]; omega) | (simp only [qD] at *; omega))))
  refine CallV.of isCall_89 (take_one h1 125) ?_
  rintro _ w2 ⟨rfl, h2, k2⟩
  refine Sm.out ?_
  repeat (first | refine qS ?_ | refine qB ?_ | refine qT rfl ?_ | refine qF rfl ?_ | ((first | refine qR rfl ?_ | refine qK ?_ | refine qE ?_ | refine qW ?_ | refine qM ?_); try simp -dsimp (maxSteps := 2000000) (disch := first | omega | (simp only [qZ] <;> omega) | fail) only [push_cast, ↓qP, ↓reduceIte, Nat.reduceEqDiff, Nat.reduceAdd, Nat.reduceMul, Nat.reduceSub, Nat.reduceLeDiff, Int.reduceToNat, reduceCtorEq, f4]) | (refine qA ?_ ?_; (first | omega | (simp only [qL]; omega) | (simp only [qD] at *; omega))))
  refine CallV.of isCall_110 (count_any w2 (dX l i) (by have := dX_len l i; omega) (dX_digs l i)) ?_
  rintro e w3 (⟨q1, rfl, k3⟩ | ⟨q1, rfl, k3⟩)
  case inr =>
    refine Sm.out ?_
    repeat (first | refine qS ?_ | refine qB ?_ | refine qT rfl ?_ | refine qF rfl ?_ | ((first | refine qR rfl ?_ | refine qK ?_ | refine qE ?_ | refine qW ?_ | refine qM ?_); try simp -dsimp (maxSteps := 2000000) (disch := first | omega | (simp only [qZ] <;> omega) | fail) only [push_cast, ↓qP, ↓reduceIte, Nat.reduceEqDiff, Nat.reduceAdd, Nat.reduceMul, Nat.reduceSub, Nat.reduceLeDiff, Int.reduceToNat, reduceCtorEq]) | (refine qA ?_ ?_; (first | omega | (simp only [qL]; omega) | (simp only [qD] at *; omega))))
    exact Pan.mk (.inr ⟨fun h => q1 h.2.1, flt_any ((k1.trans k2).trans (k3.mono fun _ _ h => h.elim))⟩)
  have h3 : Rd w3 a l _ d := h2.keep k3 id
  have k4 : Kp (fun b => b = a) w w3 := (k1.trans k2).trans (k3.mono fun _ _ h => h.elim)
  clear h1 h2 k1 k2 k3
  obtain ⟨lo, hlo⟩ : ∃ lo, lo = decF (dX l i) 0 := ⟨_, rfl⟩
  rw [← hlo] at q1
  have hok : ivOk l i ↔ (hasAt l (ivEnd l i) 125 = true ∧ lo ≤ 255 ∧ decF (ivTo l i) 0 ≤ 255 ∧ (ivTo l i = [] ∨ lo ≤ decF (ivTo l i) 0)) := by rw [hlo]; exact Iff.rfl
  rw [← hlo]
  by_cases ht : ivTo l i = []
  · have hte : (ivTo l i == []) = true := by rw [ht]; rfl
    have e3 : ivHi l i = -1 := by unfold ivHi; rw [if_pos ht]
    have z : decF [] 0 = 0 := rfl
    rw [ht, z] at hok
    rw [hok, e3]
    refine Sm.out ?_
    repeat (first | refine qS ?_ | refine qB ?_ | refine qT rfl ?_ | refine qF rfl ?_ | ((first | refine qR rfl ?_ | refine qK ?_ | refine qE ?_ | refine qW ?_ | refine qM ?_); try simp -dsimp (maxSteps := 2000000) (disch := first | omega | (simp only [qZ] <;> omega) | fail) only [push_cast, ↓qP, ↓reduceIte, Nat.reduceEqDiff, Nat.reduceAdd, Nat.reduceMul, Nat.reduceSub, Nat.reduceLeDiff, Int.reduceToNat, reduceCtorEq, f4, f5, hte]) | (refine qA ?_ ?_; (first | omega | (simp only [qL]; omega) | (simp only [qD] at *; omega))))
    cases hc : hasAt l (ivEnd l i) 125 with
    | false =>
      refine Sm.out ?_
      repeat (first | refine qS ?_ | refine qB ?_ | refine qT rfl ?_ | refine qF rfl ?_ | ((first | refine qR rfl ?_ | refine qK ?_ | refine qE ?_ | refine qW ?_ | refine qM ?_); try simp -dsimp (maxSteps := 2000000) (disch := first | omega | (simp only [qZ] <;> omega) | fail) only [push_cast, ↓qP, ↓reduceIte, Nat.reduceEqDiff, Nat.reduceAdd, Nat.reduceMul, Nat.reduceSub, Nat.reduceLeDiff, Int.reduceToNat, reduceCtorEq]) | (refine qA ?_ ?_; (first | omega | (simp only [qL]; omega) | (simp only [qD] at *; omega))))
      exact Pan.mk (.inr ⟨by simp, flt_any k4⟩)
    | true =>
      rw [hc] at h3
      have c1 : decide ((-1 : Int) ≥ 0) = false := rfl
      refine Sm.out ?_
      repeat (first | refine qS ?_ | refine qB ?_ | refine qT rfl ?_ | refine qF rfl ?_ | ((first | refine qR rfl ?_ | refine qK ?_ | refine qE ?_ | refine qW ?_ | refine qM ?_); try simp -dsimp (maxSteps := 2000000) (disch := first | omega | (simp only [qZ] <;> omega) | fail) only [push_cast, ↓qP, ↓reduceIte, Nat.reduceEqDiff, Nat.reduceAdd, Nat.reduceMul, Nat.reduceSub, Nat.reduceLeDiff, Int.reduceToNat, reduceCtorEq, c1]) | (refine qA ?_ ?_; (first | omega | (simp only [qL]; omega) | (simp only [qD] at *; omega))))
      exact Ret.mk (.inl ⟨⟨rfl, q1, by omega, .inl rfl⟩, rfl, h3, k4⟩)
  · have hte : (ivTo l i == []) = false := by simpa using ht
    have e3 : ivHi l i = (decF (ivTo l i) 0 : Nat) := by unfold ivHi; rw [if_neg ht]
    rw [hok, e3]
    refine Sm.out ?_
    repeat (first | refine qS ?_ | refine qB ?_ | refine qT rfl ?_ | refine qF rfl ?_ | ((first | refine qR rfl ?_ | refine qK ?_ | refine qE ?_ | refine qW ?_ | refine qM ?_); try simp -dsimp (maxSteps := 2000000) (disch := first | omega | (simp only [qZ] <;> omega) | fail) only [push_cast, ↓qP, ↓reduceIte, Nat.reduceEqDiff, Nat.reduceAdd, Nat.reduceMul, Nat.reduceSub, Nat.reduceLeDiff, Int.reduceToNat, reduceCtorEq, f4, f5, hte]) | (refine qA ?_ ?_; (first | omega | (simp only [qL]; omega) | (simp only [qD] at *; omega))))
    refine CallV.of isCall_110 (count_any w3 (ivTo l i) (by have := ivTo_len l i; omega) (ivTo_digs l i)) ?_
    rintro e w4 (⟨q2, rfl, k5⟩ | ⟨q2, rfl, k5⟩)
    case inr =>
      refine Sm.out ?_
      repeat (first | refine qS ?_ | refine qB ?_ | refine qT rfl ?_ | refine qF rfl ?_ | ((first | refine qR rfl ?_ | refine qK ?_ | refine qE ?_ | refine qW ?_ | refine qM ?_); try simp -dsimp (maxSteps := 2000000) (disch := first | omega | (simp only [qZ] <;> omega) | fail) only [push_cast, ↓qP, ↓reduceIte, Nat.reduceEqDiff, Nat.reduceAdd, Nat.reduceMul, Nat.reduceSub, Nat.reduceLeDiff, Int.reduceToNat, reduceCtorEq]) | (refine qA ?_ ?_; (first | omega | (simp only [qL]; omega) | (simp only [qD] at *; omega))))
      exact Pan.mk (.inr ⟨fun h => q2 h.2.2.1, flt_any (k4.trans (k5.mono fun _ _ h => h.elim))⟩)
    have h4 : Rd w4 a l _ d := h3.keep k5 id
    have k6 : Kp (fun b => b = a) w w4 := k4.trans (k5.mono fun _ _ h => h.elim)
    obtain ⟨hi', hhi⟩ : ∃ hi', hi' = decF (ivTo l i) 0 := ⟨_, rfl⟩
    rw [← hhi] at q2 ⊢
    cases hc : hasAt l (ivEnd l i) 125 with
    | false =>
      refine Sm.out ?_
      repeat (first | refine qS ?_ | refine qB ?_ | refine qT rfl ?_ | refine qF rfl ?_ | ((first | refine qR rfl ?_ | refine qK ?_ | refine qE ?_ | refine qW ?_ | refine qM ?_); try simp -dsimp (maxSteps := 2000000) (disch := first | omega | (simp only [qZ] <;> omega) | fail) only [push_cast, ↓qP, ↓reduceIte, Nat.reduceEqDiff, Nat.reduceAdd, Nat.reduceMul, Nat.reduceSub, Nat.reduceLeDiff, Int.reduceToNat, reduceCtorEq]) | (refine qA ?_ ?_; (first | omega | (simp only [qL]; omega) | (simp only [qD] at *; omega))))
      exact Pan.mk (.inr ⟨by simp, flt_any k6⟩)
    | true =>
      rw [hc] at h4
      have c1 : decide ((hi' : Int) ≥ 0) = true := decide_eq_true (by omega)
      rcases Nat.lt_or_ge hi' lo with hq | hq
      · have c2 : decide ((lo : Int) > (hi' : Int)) = true := decide_eq_true (by omega)
        refine Sm.out ?_
        repeat (first | refine qS ?_ | refine qB ?_ | refine qT rfl ?_ | refine qF rfl ?_ | ((first | refine qR rfl ?_ | refine qK ?_ | refine qE ?_ | refine qW ?_ | refine qM ?_); try simp -dsimp (maxSteps := 2000000) (disch := first | omega | (simp only [qZ] <;> omega) | fail) only [push_cast, ↓qP, ↓reduceIte, Nat.reduceEqDiff, Nat.reduceAdd, Nat.reduceMul, Nat.reduceSub, Nat.reduceLeDiff, Int.reduceToNat, reduceCtorEq, c1, c2]) | (refine qA ?_ ?_; (first | omega | (simp only [qL]; omega) | (simp only [qD] at *; omega))))
        exact Pan.mk (.inr ⟨fun h => by rcases h.2.2.2 with h | h; exact ht h; omega, flt_any k6⟩)
      · have c2 : decide ((lo : Int) > (hi' : Int)) = false := decide_eq_false (by omega)
        refine Sm.out ?_
        repeat (first | refine qS ?_ | refine qB ?_ | refine qT rfl ?_ | refine qF rfl ?_ | ((first | refine qR rfl ?_ | refine qK ?_ | refine qE ?_ | refine qW ?_ | refine qM ?_); try simp -dsimp (maxSteps := 2000000) (disch := first | omega | (simp only [qZ] <;> omega) | fail) only [push_cast, ↓qP, ↓reduceIte, Nat.reduceEqDiff, Nat.reduceAdd, Nat.reduceMul, Nat.reduceSub, Nat.reduceLeDiff, Int.reduceToNat, reduceCtorEq, c1, c2]) | (refine qA ?_ ?_; (first | omega | (simp only [qL]; omega) | (simp only [qD] at *; omega))))
        exact Ret.mk (.inl ⟨⟨rfl, q1, q2, .inr hq⟩, rfl, h4, k6⟩)
end
end Go.Proofs.Ytddichibegppjaa

/- The program's reader: repeat. -/
namespace Go.Proofs.Ytddichibegppjaa
open Go Go.VC Go.RowKit

theorem u8e (a b : UInt8) : ((a.toNat : Int) == (b.toNat : Int)) = (a == b) := by
  rw [Bool.eq_iff_iff, beq_iff_eq, beq_iff_eq]
  exact ⟨fun h => UInt8.toNat_inj.1 (by omega), fun h => by rw [h]⟩
theorem hasAt_eq {l : List UInt8} {i : Nat} (c : UInt8) (h : i < l.length) : hasAt l i c = (byteAt l i == c) := by unfold hasAt; rw [decide_eq_true h, Bool.true_and]
/-- The reference's interval. -/
theorem repeat_iv {l : List UInt8} {s : S3} (hs : s.f = 0) (hi : s.i < l.length) (hc : byteAt l s.i = 123) (hd : s.i + 1 < l.length) (hg : digs 48 57 (byteAt l (s.i + 1)) = true) :
    (ivOk l (s.i + 1) → repeat3 l s = ((((decF (dX l (s.i + 1)) 0 : Nat) : Int), ivHi l (s.i + 1), true), { s with i := ivEnd l (s.i + 1) + 1 })) ∧ (¬ ivOk l (s.i + 1) → (repeat3 l s).2.f ≠ 0) := by
  have hm : more3 l s = true := by unfold more3; simp [hs]; omega
  have hx : dX l (s.i + 1) ≠ [] := by
    have := dX_nil l (s.i + 1) (by omega)
    have h2 : s.i + 1 < dE l (s.i + 1) := by
      unfold dE
      rw [show l.length - (s.i + 1) = (l.length - (s.i + 2)) + 1 by omega, (run_step (k := l.length - (s.i + 2)) hd hg).1]
      have := runD_le l 57 (l.length - (s.i + 2)) (s.i + 1 + 1)
      omega
    rw [decide_eq_false (by omega)] at this
    simpa using this
  have e1 := digit_eq l s.on
  have hon : s.on.i = s.i + 1 := rfl
  rw [hon] at e1
  obtain ⟨N, hN⟩ : ∃ N, N = dE l (s.i + 1) := ⟨_, rfl⟩
  have hNl : N ≤ l.length := by have := dE_le l (s.i + 1); omega
  have key : repeat3 l s =
      (let m : Int := (min (decF (dX l (s.i + 1)) 0) 1000 : Nat)
       let comma := decide ((N : Int) < l.length) && byteAt l N == 44
       let q := digit3 l ({ s.on with i := N } : S3).on
       let n := if comma then (if q.1.2 then q.1.1 else -1) else m
       let s2 := if comma then q.2 else { s.on with i := N }
       if decide ((s2.i : Int) ≥ l.length) || !(byteAt l s2.i == 125) || decide (m > 255) || decide (n > 255) || (decide (n ≥ 0) && decide (m > n)) then ((0, 0, false), s2.fail 3)
       else ((m, n, true), s2.on)) := by
    unfold repeat3
    rw [hm, hc, hg, decide_eq_false (show ¬ (s.i : Int) + 1 ≥ (l.length : Int) by omega), e1, ← hN]
    rfl
  have cm : (decide ((N : Int) < l.length) && byteAt l N == 44) = hasAt l N 44 := by
    unfold hasAt; congr 1; exact decide_eq_decide.2 (by omega)
  have e2 := digit_eq l ({ s.on with i := N } : S3).on
  have hon2 : (({ s.on with i := N } : S3).on).i = N + 1 := rfl
  rw [hon2] at e2
  rw [cm, e2] at key
  have cl : ∀ E, (decide (((E : Nat) : Int) ≥ l.length) || !(byteAt l E == 125)) = !hasAt l E 125 := by
    intro E
    unfold hasAt
    rcases Nat.lt_or_ge E l.length with h | h
    · rw [decide_eq_false (by omega : ¬ ((E : Nat) : Int) ≥ l.length), decide_eq_true h]; simp
    · rw [decide_eq_true (by omega : ((E : Nat) : Int) ≥ l.length), decide_eq_false (by omega)]; simp
  unfold ivOk ivHi ivEnd ivTo
  rw [← hN]
  obtain ⟨x1, hx1⟩ : ∃ x1, x1 = decF (dX l (s.i + 1)) 0 := ⟨_, rfl⟩
  rw [← hx1] at key ⊢
  cases hcm : hasAt l N 44 with
  | false =>
    rw [hcm] at key
    simp only [Bool.false_eq_true, if_false] at key ⊢
    rw [cl] at key
    rw [if_neg hx]
    rw [← hx1]
    constructor
    · rintro ⟨h1, h2, _, _⟩
      rw [key, h1, Nat.min_eq_left (by omega)]
      rw [decide_eq_false (show ¬ (x1 : Int) > 255 by omega), decide_eq_false (show ¬ (x1 : Int) > (x1 : Int) by omega)]
      simp [S3.on]
    · intro hno
      rw [key]
      have : (!hasAt l N 125 || decide (((min x1 1000 : Nat) : Int) > 255) || decide (((min x1 1000 : Nat) : Int) > 255) || (decide (((min x1 1000 : Nat) : Int) ≥ 0) && decide (((min x1 1000 : Nat) : Int) > ((min x1 1000 : Nat) : Int)))) = true := by
        rcases Bool.eq_false_or_eq_true (hasAt l N 125) with h | h
        · rcases Nat.lt_or_ge 255 x1 with h2 | h2
          · rw [decide_eq_true (show ((min x1 1000 : Nat) : Int) > 255 by omega)]; simp
          · exact absurd ⟨h, h2, h2, .inr (Nat.le_refl _)⟩ hno
        · rw [h]; simp
      rw [if_pos this]
      exact fail_f _ (by decide)
  | true =>
    rw [hcm] at key
    simp only [if_true] at key ⊢
    have hlt := hasAt_lt hcm
    rw [cl] at key
    obtain ⟨x2, hx2⟩ : ∃ x2, x2 = decF (dX l (N + 1)) 0 := ⟨_, rfl⟩
    rw [← hx2] at key ⊢
    have hnil := dX_nil l (N + 1) (by omega)
    have hle := dE_le l (N + 1)
    by_cases ht : dX l (N + 1) = []
    · rw [ht] at hnil hx2
      have h0 := (of_decide_eq_true hnil.symm)
      have z : x2 = 0 := hx2
      rw [decide_eq_false (by omega : ¬ N + 1 < dE l (N + 1))] at key
      rw [if_pos ht]
      simp only [Bool.false_eq_true, if_false] at key
      constructor
      · rintro ⟨h1, h2, _, _⟩
        rw [key, h1, Nat.min_eq_left (by omega), decide_eq_false (show ¬ (x1 : Int) > 255 by omega)]
        simp [S3.on]
      · intro hno
        rw [key]
        have : (!hasAt l (dE l (N + 1)) 125 || decide (((min x1 1000 : Nat) : Int) > 255) || decide ((-1 : Int) > 255) || (decide ((-1 : Int) ≥ 0) && decide (((min x1 1000 : Nat) : Int) > -1))) = true := by
          rcases Bool.eq_false_or_eq_true (hasAt l (dE l (N + 1)) 125) with h | h
          · rcases Nat.lt_or_ge 255 x1 with h2 | h2
            · rw [decide_eq_true (show ((min x1 1000 : Nat) : Int) > 255 by omega)]; simp
            · exact absurd ⟨h, h2, by omega, .inl ht⟩ hno
          · rw [h]; simp
        rw [if_pos this]
        exact fail_f _ (by decide)
    · have hne : (dX l (N + 1) == []) = false := by simpa using ht
      rw [hne] at hnil
      have h0 := (of_decide_eq_false hnil.symm)
      rw [decide_eq_true (by omega : N + 1 < dE l (N + 1))] at key
      rw [if_neg ht]
      simp only [if_true] at key
      constructor
      · rintro ⟨h1, h2, h3, h4⟩
        have h4 : x1 ≤ x2 := by rcases h4 with h | h; exact absurd h ht; exact h
        rw [key, h1, Nat.min_eq_left (by omega), Nat.min_eq_left (by omega), decide_eq_false (show ¬ (x1 : Int) > 255 by omega), decide_eq_false (show ¬ (x2 : Int) > 255 by omega), decide_eq_false (show ¬ (x1 : Int) > (x2 : Int) by omega)]
        simp [S3.on]
      · intro hno
        rw [key]
        have : (!hasAt l (dE l (N + 1)) 125 || decide (((min x1 1000 : Nat) : Int) > 255) || decide (((min x2 1000 : Nat) : Int) > 255) || (decide (((min x2 1000 : Nat) : Int) ≥ 0) && decide (((min x1 1000 : Nat) : Int) > ((min x2 1000 : Nat) : Int)))) = true := by
          rcases Bool.eq_false_or_eq_true (hasAt l (dE l (N + 1)) 125) with h | h
          · rcases Nat.lt_or_ge 255 x1 with h2 | h2
            · rw [decide_eq_true (show ((min x1 1000 : Nat) : Int) > 255 by omega)]; simp
            · rcases Nat.lt_or_ge 255 x2 with h3 | h3
              · rw [decide_eq_true (show ((min x2 1000 : Nat) : Int) > 255 by omega)]; simp
              · rcases Nat.lt_or_ge x2 x1 with h4 | h4
                · rw [decide_eq_true (show ((min x2 1000 : Nat) : Int) ≥ 0 by omega), decide_eq_true (show ((min x1 1000 : Nat) : Int) > ((min x2 1000 : Nat) : Int) by omega)]; simp
                · exact absurd ⟨h, h2, h3, .inr h4⟩ hno
          · rw [h]; simp
        rw [if_pos this]
        exact fail_f _ (by decide)

section
variable {w : World} {a : Nat} {l : List UInt8} {i : Nat} {d : Int}
theorem repeat_any {s : S3} (h : Rd w a l s.i d) (hs : s.f = 0) (hi : s.i ≤ l.length) (hl : l.length ≤ 1000000) : Calls Try.prog 97 #[.pointer (some ⟨a, 0, none⟩)] w fun e w' =>
    ((repeat3 l s).2.f = 0 ∧ e = .returned (.tuple #[.int .i64 (repeat3 l s).1.1, .int .i64 (repeat3 l s).1.2.1, .bool (repeat3 l s).1.2.2]) ∧ Rd w' a l (repeat3 l s).2.i d ∧ Kp (fun b => b = a) w w') ∨ ((repeat3 l s).2.f ≠ 0 ∧ Pn w a e w') := by
  refine enter (n := 60) (args := [.pointer (some ⟨a, 0, none⟩)]) Try.func97 rfl rfl rfl (by simp) ?_
  repeat (first | refine qS ?_ | refine qB ?_ | refine qT rfl ?_ | refine qF rfl ?_ | ((first | refine qR rfl ?_ | refine qK ?_ | refine qE ?_ | refine qW ?_ | refine qM ?_); try simp -dsimp (maxSteps := 2000000) (disch := first | omega | (simp only [qZ] <;> omega) | fail) only [push_cast, ↓qP, ↓reduceIte, Nat.reduceEqDiff, Nat.reduceAdd, Nat.reduceMul, Nat.reduceSub, Nat.reduceLeDiff, Int.reduceToNat, reduceCtorEq]) | (refine qA ?_ ?_; (first | omega | (simp only [qL]; omega) | (simp only [qD] at *; omega))))
  refine CallV.of isCall_89 (take_one h 42) ?_
  rintro _ w1 ⟨rfl, h1, k1⟩
  cases c1 : hasAt l s.i 42 with
  | true =>
    rw [c1] at h1
    have hlt := hasAt_lt c1
    have hm : more3 l s = true := by unfold more3; simp [hs]; omega
    rw [hasAt_eq _ hlt] at c1
    have e : repeat3 l s = ((0, -1, true), s.on) := by unfold repeat3; rw [hm, c1]; rfl
    rw [e]
    refine Sm.out ?_
    repeat (first | refine qS ?_ | refine qB ?_ | refine qT rfl ?_ | refine qF rfl ?_ | ((first | refine qR rfl ?_ | refine qK ?_ | refine qE ?_ | refine qW ?_ | refine qM ?_); try simp -dsimp (maxSteps := 2000000) (disch := first | omega | (simp only [qZ] <;> omega) | fail) only [push_cast, ↓qP, ↓reduceIte, Nat.reduceEqDiff, Nat.reduceAdd, Nat.reduceMul, Nat.reduceSub, Nat.reduceLeDiff, Int.reduceToNat, reduceCtorEq]) | (refine qA ?_ ?_; (first | omega | (simp only [qL]; omega) | (simp only [qD] at *; omega))))
    exact Ret.mk (.inl ⟨hs, rfl, h1, k1⟩)
  | false =>
  rw [c1] at h1
  have h1 : Rd w1 a l s.i d := h1
  refine Sm.out ?_
  repeat (first | refine qS ?_ | refine qB ?_ | refine qT rfl ?_ | refine qF rfl ?_ | ((first | refine qR rfl ?_ | refine qK ?_ | refine qE ?_ | refine qW ?_ | refine qM ?_); try simp -dsimp (maxSteps := 2000000) (disch := first | omega | (simp only [qZ] <;> omega) | fail) only [push_cast, ↓qP, ↓reduceIte, Nat.reduceEqDiff, Nat.reduceAdd, Nat.reduceMul, Nat.reduceSub, Nat.reduceLeDiff, Int.reduceToNat, reduceCtorEq]) | (refine qA ?_ ?_; (first | omega | (simp only [qL]; omega) | (simp only [qD] at *; omega))))
  refine CallV.of isCall_89 (take_one h1 43) ?_
  rintro _ w2 ⟨rfl, h2, k2⟩
  cases c2 : hasAt l s.i 43 with
  | true =>
    rw [c2] at h2
    have hlt := hasAt_lt c2
    have hm : more3 l s = true := by unfold more3; simp [hs]; omega
    rw [hasAt_eq _ hlt] at c1 c2
    have e : repeat3 l s = ((1, -1, true), s.on) := by unfold repeat3; rw [hm, c1, c2]; rfl
    rw [e]
    refine Sm.out ?_
    repeat (first | refine qS ?_ | refine qB ?_ | refine qT rfl ?_ | refine qF rfl ?_ | ((first | refine qR rfl ?_ | refine qK ?_ | refine qE ?_ | refine qW ?_ | refine qM ?_); try simp -dsimp (maxSteps := 2000000) (disch := first | omega | (simp only [qZ] <;> omega) | fail) only [push_cast, ↓qP, ↓reduceIte, Nat.reduceEqDiff, Nat.reduceAdd, Nat.reduceMul, Nat.reduceSub, Nat.reduceLeDiff, Int.reduceToNat, reduceCtorEq]) | (refine qA ?_ ?_; (first | omega | (simp only [qL]; omega) | (simp only [qD] at *; omega))))
    exact Ret.mk (.inl ⟨hs, rfl, h2, k1.trans k2⟩)
  | false =>
  rw [c2] at h2
  have h2 : Rd w2 a l s.i d := h2
  refine Sm.out ?_
  repeat (first | refine qS ?_ | refine qB ?_ | refine qT rfl ?_ | refine qF rfl ?_ | ((first | refine qR rfl ?_ | refine qK ?_ | refine qE ?_ | refine qW ?_ | refine qM ?_); try simp -dsimp (maxSteps := 2000000) (disch := first | omega | (simp only [qZ] <;> omega) | fail) only [push_cast, ↓qP, ↓reduceIte, Nat.reduceEqDiff, Nat.reduceAdd, Nat.reduceMul, Nat.reduceSub, Nat.reduceLeDiff, Int.reduceToNat, reduceCtorEq]) | (refine qA ?_ ?_; (first | omega | (simp only [qL]; omega) | (simp only [qD] at *; omega))))
  refine CallV.of isCall_89 (take_one h2 63) ?_
  rintro _ w3 ⟨rfl, h3, k3⟩
  cases c3 : hasAt l s.i 63 with
  | true =>
    rw [c3] at h3
    have hlt := hasAt_lt c3
    have hm : more3 l s = true := by unfold more3; simp [hs]; omega
    rw [hasAt_eq _ hlt] at c1 c2 c3
    have e : repeat3 l s = ((0, 1, true), s.on) := by unfold repeat3; rw [hm, c1, c2, c3]; rfl
    rw [e]
    refine Sm.out ?_
    repeat (first | refine qS ?_ | refine qB ?_ | refine qT rfl ?_ | refine qF rfl ?_ | ((first | refine qR rfl ?_ | refine qK ?_ | refine qE ?_ | refine qW ?_ | refine qM ?_); try simp -dsimp (maxSteps := 2000000) (disch := first | omega | (simp only [qZ] <;> omega) | fail) only [push_cast, ↓qP, ↓reduceIte, Nat.reduceEqDiff, Nat.reduceAdd, Nat.reduceMul, Nat.reduceSub, Nat.reduceLeDiff, Int.reduceToNat, reduceCtorEq]) | (refine qA ?_ ?_; (first | omega | (simp only [qL]; omega) | (simp only [qD] at *; omega))))
    exact Ret.mk (.inl ⟨hs, rfl, h3, (k1.trans k2).trans k3⟩)
  | false =>
  rw [c3] at h3
  have h3 : Rd w3 a l s.i d := h3
  have k4 := (k1.trans k2).trans k3
  clear h h1 h2 k1 k2 k3
  have hb := h3.blk.rdc
  have hz := h3.blk.fz
  have hll : (l.drop s.i).length = l.length - s.i := by simp
  have hlt3 := h3.lt
  -- nothing
  have nothing : (∀ hlt : s.i < l.length, byteAt l s.i == 123 → (decide ((s.i : Int) + 1 ≥ l.length) || !digs 48 57 (byteAt l (s.i + 1))) = true) → repeat3 l s = ((0, 0, false), s) := by
    intro hh
    unfold repeat3
    rcases Nat.lt_or_ge s.i l.length with hlt | hge
    · have hm : more3 l s = true := by unfold more3; simp [hs]; omega
      rw [hasAt_eq _ hlt] at c1 c2 c3
      rw [hm, c1, c2, c3]
      rcases Bool.eq_false_or_eq_true (byteAt l s.i == 123) with h | h
      · rw [h, hh hlt h]; rfl
      · rw [h]; rfl
    · have hm : more3 l s = false := by unfold more3; simp [hs]; omega
      rw [hm]; rfl
  rcases Nat.lt_or_ge (s.i + 1) l.length with hd | hd
  case inr =>
    have g1 : decide ((l.length : Int) - (s.i : Int) > 1) = false := decide_eq_false (by omega)
    rw [nothing (fun hlt _ => by rw [decide_eq_true (by omega : (s.i : Int) + 1 ≥ (l.length : Int))]; rfl)]
    refine Sm.out ?_
    repeat (first | refine qS ?_ | refine qB ?_ | refine qT rfl ?_ | refine qF rfl ?_ | ((first | refine qR rfl ?_ | refine qK ?_ | refine qE ?_ | refine qW ?_ | refine qM ?_); try simp -dsimp (maxSteps := 2000000) (disch := first | omega | (simp only [qZ] <;> omega) | fail) only [push_cast, ↓qP, ↓reduceIte, Nat.reduceEqDiff, Nat.reduceAdd, Nat.reduceMul, Nat.reduceSub, Nat.reduceLeDiff, Int.reduceToNat, reduceCtorEq, hb, hll, g1]) | (refine qA ?_ ?_; (first | omega | (simp only [qL]; omega) | (simp only [qD] at *; omega))))
    exact Ret.mk (.inl ⟨hs, rfl, h3, k4⟩)
  have g1 : decide ((l.length : Int) - (s.i : Int) > 1) = true := decide_eq_true (by omega)
  have hg := getD_drop l s.i 0
  have hg1 := getD_drop l s.i 1
  have hl0 : 1 < (l.drop s.i).length := by omega
  by_cases c4 : byteAt l s.i = 123
  case neg =>
    have g2 : (((byteAt l s.i).toNat : Int) == 123) = false := by rw [show (((byteAt l s.i).toNat : Int) == 123) = (byteAt l s.i == 123) from u8e _ 123]; simpa using c4
    rw [nothing (fun hlt h => absurd (by simpa using h) c4)]
    refine Sm.out ?_
    repeat (first | refine qS ?_ | refine qB ?_ | refine qT rfl ?_ | refine qF rfl ?_ | ((first | refine qR rfl ?_ | refine qK ?_ | refine qE ?_ | refine qW ?_ | refine qM ?_); try simp -dsimp (maxSteps := 2000000) (disch := first | omega | (simp only [qZ] <;> omega) | fail) only [push_cast, ↓qP, ↓reduceIte, Nat.reduceEqDiff, Nat.reduceAdd, Nat.reduceMul, Nat.reduceSub, Nat.reduceLeDiff, Int.reduceToNat, reduceCtorEq, hb, hll, g1, hg, g2]) | (refine qA ?_ ?_; (first | omega | (simp only [qL]; omega) | (simp only [qD] at *; omega))))
    exact Ret.mk (.inl ⟨hs, rfl, h3, k4⟩)
  have g2 : (((byteAt l s.i).toNat : Int) == 123) = true := by rw [c4]; rfl
  by_cases c5 : digs 48 57 (byteAt l (s.i + 1)) = true
  case neg =>
    rw [nothing (fun hlt h => by rw [show digs 48 57 (byteAt l (s.i + 1)) = false by simpa using c5]; simp)]
    have c5' : digs 48 57 (byteAt l (s.i + 1)) = false := by simpa using c5
    unfold digs at c5'
    have e4 : (48 : UInt8).toNat = 48 := rfl
    have e5 : (57 : UInt8).toNat = 57 := rfl
    rw [e4, e5] at c5'
    rcases Nat.lt_or_ge (byteAt l (s.i + 1)).toNat 48 with h48 | h48
    · have g3 : decide ((48 : Int) ≤ ((byteAt l (s.i + 1)).toNat : Int)) = false := decide_eq_false (by omega)
      refine Sm.out ?_
      repeat (first | refine qS ?_ | refine qB ?_ | refine qT rfl ?_ | refine qF rfl ?_ | ((first | refine qR rfl ?_ | refine qK ?_ | refine qE ?_ | refine qW ?_ | refine qM ?_); try simp -dsimp (maxSteps := 2000000) (disch := first | omega | (simp only [qZ] <;> omega) | fail) only [push_cast, ↓qP, ↓reduceIte, Nat.reduceEqDiff, Nat.reduceAdd, Nat.reduceMul, Nat.reduceSub, Nat.reduceLeDiff, Int.reduceToNat, reduceCtorEq, hb, hll, g1, hg, g2, hg1, g3]) | (refine qA ?_ ?_; (first | omega | (simp only [qL]; omega) | (simp only [qD] at *; omega))))
      exact Ret.mk (.inl ⟨hs, rfl, h3, k4⟩)
    · have g3 : decide ((48 : Int) ≤ ((byteAt l (s.i + 1)).toNat : Int)) = true := decide_eq_true (by omega)
      have h57 : ¬ (byteAt l (s.i + 1)).toNat ≤ 57 := by
        rw [decide_eq_true h48, Bool.true_and] at c5'
        exact of_decide_eq_false c5'
      have g4 : decide (((byteAt l (s.i + 1)).toNat : Int) ≤ 57) = false := decide_eq_false (by omega)
      refine Sm.out ?_
      repeat (first | refine qS ?_ | refine qB ?_ | refine qT rfl ?_ | refine qF rfl ?_ | ((first | refine qR rfl ?_ | refine qK ?_ | refine qE ?_ | refine qW ?_ | refine qM ?_); try simp -dsimp (maxSteps := 2000000) (disch := first | omega | (simp only [qZ] <;> omega) | fail) only [push_cast, ↓qP, ↓reduceIte, Nat.reduceEqDiff, Nat.reduceAdd, Nat.reduceMul, Nat.reduceSub, Nat.reduceLeDiff, Int.reduceToNat, reduceCtorEq, hb, hll, g1, hg, g2, hg1, g3, g4]) | (refine qA ?_ ?_; (first | omega | (simp only [qL]; omega) | (simp only [qD] at *; omega))))
      exact Ret.mk (.inl ⟨hs, rfl, h3, k4⟩)
  have hdr := dig_range c5
  have e5 : (57 : UInt8).toNat = 57 := rfl
  have g3 : decide ((48 : Int) ≤ ((byteAt l (s.i + 1)).toNat : Int)) = true := decide_eq_true (by omega)
  have g4 : decide (((byteAt l (s.i + 1)).toNat : Int) ≤ 57) = true := decide_eq_true (by omega)
  obtain ⟨r1, r2⟩ := repeat_iv hs (by omega) c4 hd c5
  have hli : ((l.length : Int) - (s.i : Int)).toNat = l.length - s.i := by omega
  have hdd : (l.drop s.i).drop 1 = l.drop (s.i + 1) := by rw [List.drop_drop]
  have htt : ((l.drop (s.i + 1)).take (l.length - s.i - 1)) = l.drop (s.i + 1) := List.take_of_length_le (by simp; omega)
  refine Sm.out ?_
  repeat (first | refine qS ?_ | refine qB ?_ | refine qT rfl ?_ | refine qF rfl ?_ | ((first | refine qR rfl ?_ | refine qK ?_ | refine qE ?_ | refine qW ?_ | refine qM ?_); try simp -dsimp (maxSteps := 2000000) (disch := first | omega | (simp only [qZ] <;> omega) | fail) only [push_cast, ↓qP, ↓reduceIte, Nat.reduceEqDiff, Nat.reduceAdd, Nat.reduceMul, Nat.reduceSub, Nat.reduceLeDiff, Int.reduceToNat, reduceCtorEq, hb, hz, hll, g1, hg, g2, hg1, g3, g4, hli, hdd, htt]) | (refine qA ?_ ?_; (first | omega | (simp only [qL]; omega) | (simp only [qD] at *; omega))))
  have h5 : Rd (w3.setCell ⟨a, 0, none⟩ (.string (B (l.drop (s.i + 1))))) a l (s.i + 1) d := h3.blk.set 0 _
  have k5 : Kp (fun b => b = a) w (w3.setCell ⟨a, 0, none⟩ (.string (B (l.drop (s.i + 1))))) := k4.setCell (fun _ => rfl) _
  refine CallV.of isCall_102 (interval_any h5 (by omega) hl) ?_
  rintro e w6 (⟨q1, rfl, h6, k6⟩ | ⟨q1, k, rfl, b1, b2, k6⟩)
  · rw [r1 q1]
    refine Sm.out ?_
    repeat (first | refine qS ?_ | refine qB ?_ | refine qT rfl ?_ | refine qF rfl ?_ | ((first | refine qR rfl ?_ | refine qK ?_ | refine qE ?_ | refine qW ?_ | refine qM ?_); try simp -dsimp (maxSteps := 2000000) (disch := first | omega | (simp only [qZ] <;> omega) | fail) only [push_cast, ↓qP, ↓reduceIte, Nat.reduceEqDiff, Nat.reduceAdd, Nat.reduceMul, Nat.reduceSub, Nat.reduceLeDiff, Int.reduceToNat, reduceCtorEq]) | (refine qA ?_ ?_; (first | omega | (simp only [qL]; omega) | (simp only [qD] at *; omega))))
    exact Ret.mk (.inl ⟨hs, rfl, h6, k5.trans k6⟩)
  · refine Sm.out ?_
    repeat (first | refine qS ?_ | refine qB ?_ | refine qT rfl ?_ | refine qF rfl ?_ | ((first | refine qR rfl ?_ | refine qK ?_ | refine qE ?_ | refine qW ?_ | refine qM ?_); try simp -dsimp (maxSteps := 2000000) (disch := first | omega | (simp only [qZ] <;> omega) | fail) only [push_cast, ↓qP, ↓reduceIte, Nat.reduceEqDiff, Nat.reduceAdd, Nat.reduceMul, Nat.reduceSub, Nat.reduceLeDiff, Int.reduceToNat, reduceCtorEq]) | (refine qA ?_ ?_; (first | omega | (simp only [qL]; omega) | (simp only [qD] at *; omega))))
    exact Pan.mk (.inr ⟨r2 q1, k, rfl, b1, b2, k5.trans k6⟩)
end
end Go.Proofs.Ytddichibegppjaa

/- The reference's reader of expressions: small methods. -/
namespace Go.Proofs.Ytddichibegppjaa
open Go Go.VC

/-- A place in a text. -/
abbrev At3 (w : World) (a : Nat) (l : List UInt8) (s : S3) : Prop := Blk w a 82 [.string (B l), .int .i64 s.i, .int .i64 s.f, .int .i64 s.d]

section
variable {a : Nat} {l : List UInt8} {s : S3} {w : World}

theorem fail3 (h : At3 w a l s) (k : Int) :
    Calls Try.prog 50 #[.pointer (some ⟨a, 0, none⟩), .int .i64 k] w fun e w' => e = .returned (.tuple #[]) ∧ At3 w' a l (s.fail k) ∧ Kp (· = a) w w' := by
  have hlt := h.lt
  refine enter (n := 13) (args := [.pointer (some ⟨a, 0, none⟩), .int .i64 k]) Try.func50 rfl rfl rfl (by simp) ?_
  rcases Bool.eq_false_or_eq_true (s.f == 0) with hb | hb
  · have e : s.fail k = { s with f := k } := by simp at hb; simp [S3.fail, hb]
    repeat (first | refine qS ?_ | refine qB ?_ | refine qT rfl ?_ | refine qF rfl ?_ | ((first | refine qR rfl ?_ | refine qK ?_ | refine qE ?_ | refine qW ?_ | refine qM ?_); try simp -dsimp (maxSteps := 2000000) (disch := first | omega | (simp only [qZ] <;> omega) | fail) only [push_cast, ↓qP, ↓reduceIte, Nat.reduceEqDiff, Nat.reduceAdd, Nat.reduceMul, Nat.reduceSub, Nat.reduceLeDiff, Int.reduceToNat, reduceCtorEq, h.rdc, h.fz, hb]) | (refine qA ?_ ?_; (first | omega | (simp only [qL]; omega) | (simp only [qD] at *; omega))))
    rw [e]
    exact Ret.mk ⟨rfl, h.set 2 _, (Kp.refl (· = a) w).setCell (fun _ => rfl) _⟩
  · have e : s.fail k = s := by simp at hb; simp [S3.fail, hb]
    repeat (first | refine qS ?_ | refine qB ?_ | refine qT rfl ?_ | refine qF rfl ?_ | ((first | refine qR rfl ?_ | refine qK ?_ | refine qE ?_ | refine qW ?_ | refine qM ?_); try simp -dsimp (maxSteps := 2000000) (disch := first | omega | (simp only [qZ] <;> omega) | fail) only [push_cast, ↓qP, ↓reduceIte, Nat.reduceEqDiff, Nat.reduceAdd, Nat.reduceMul, Nat.reduceSub, Nat.reduceLeDiff, Int.reduceToNat, reduceCtorEq, h.rdc, h.fz, hb]) | (refine qA ?_ ?_; (first | omega | (simp only [qL]; omega) | (simp only [qD] at *; omega))))
    rw [e]
    exact Ret.mk ⟨rfl, h, Kp.refl _ w⟩

theorem more3_any (h : At3 w a l s) : Calls Try.prog 71 #[.pointer (some ⟨a, 0, none⟩)] w fun e w' => e = .returned (.bool (more3 l s)) ∧ w.drew = w' := by
  have hlt := h.lt
  refine enter (n := 20) (args := [.pointer (some ⟨a, 0, none⟩)]) Try.func71 rfl rfl rfl (by simp) ?_
  repeat (first | refine qS ?_ | refine qB ?_ | refine qT rfl ?_ | refine qF rfl ?_ | ((first | refine qR rfl ?_ | refine qK ?_ | refine qE ?_ | refine qW ?_ | refine qM ?_); try simp -dsimp (maxSteps := 2000000) (disch := first | omega | (simp only [qZ] <;> omega) | fail) only [push_cast, ↓qP, ↓reduceIte, Nat.reduceEqDiff, Nat.reduceAdd, Nat.reduceMul, Nat.reduceSub, Nat.reduceLeDiff, Int.reduceToNat, reduceCtorEq]) | (refine qA ?_ ?_; (first | omega | (simp only [qL]; omega) | (simp only [qD] at *; omega))))
  rcases Bool.eq_false_or_eq_true (s.f == 0) with hb | hb
  · refine Wp.draw [0, 1, 3, 7, 15, 31, 63, 127, 255, 511, 63, 1087, 3135, 7231, 15423, 32767, 65535, 131071] [] (.op 0 false false [] <| .op 1 false false [] <| .op 2 false false [] <| .op 3 false false [] <| .op 4 false false [] <| .op 5 false false [] <| .op 6 false false [] <| .op 7 false false [] <| .op 8 false false [] <| .op 9 false false [] <| .op 10 false false [] <| .op 11 false false [] <| .op 12 false false [] <| .op 13 false false [] <| .op 14 false false [] <| .op 15 false false [] <| .op 16 false false [] <| .op 17 false false [] <| .nil) mixed (by kernel_rfl) ?_
    simp -dsimp (maxSteps := 2000000) (disch := first | omega | (simp only [qZ] <;> omega) | fail) only [push_cast, ↓qP, ↓reduceIte, Nat.reduceEqDiff, Nat.reduceAdd, Nat.reduceMul, Nat.reduceSub, Nat.reduceLeDiff, Int.reduceToNat, reduceCtorEq, h.rdc, hb]
    refine Sm.out ?_
    repeat (first | refine qS ?_ | refine qB ?_ | refine qT rfl ?_ | refine qF rfl ?_ | ((first | refine qR rfl ?_ | refine qK ?_ | refine qE ?_ | refine qW ?_ | refine qM ?_); try simp -dsimp (maxSteps := 2000000) (disch := first | omega | (simp only [qZ] <;> omega) | fail) only [push_cast, ↓qP, ↓reduceIte, Nat.reduceEqDiff, Nat.reduceAdd, Nat.reduceMul, Nat.reduceSub, Nat.reduceLeDiff, Int.reduceToNat, reduceCtorEq]) | (refine qA ?_ ?_; (first | omega | (simp only [qL]; omega) | (simp only [qD] at *; omega))))
    refine Ret.mk ⟨?_, rfl⟩
    simp [more3, hb]
  · refine Wp.draw [0, 1, 3, 7, 15, 31, 63, 127, 255, 511, 63, 1087, 3135, 7231, 15423, 32767, 65535, 131071] [] (.op 0 false false [] <| .op 1 false false [] <| .op 2 false false [] <| .op 3 false false [] <| .op 4 false false [] <| .op 5 false false [] <| .op 6 false false [] <| .op 7 false false [] <| .op 8 false false [] <| .op 9 false false [] <| .op 10 false false [] <| .op 11 false false [] <| .op 12 false false [] <| .op 13 false false [] <| .op 14 false false [] <| .op 15 false false [] <| .op 16 false false [] <| .op 17 false false [] <| .nil) mixed (by kernel_rfl) ?_
    simp -dsimp (maxSteps := 2000000) (disch := first | omega | (simp only [qZ] <;> omega) | fail) only [push_cast, ↓qP, ↓reduceIte, Nat.reduceEqDiff, Nat.reduceAdd, Nat.reduceMul, Nat.reduceSub, Nat.reduceLeDiff, Int.reduceToNat, reduceCtorEq, h.rdc, hb]
    refine Sm.out ?_
    repeat (first | refine qS ?_ | refine qB ?_ | refine qT rfl ?_ | refine qF rfl ?_ | ((first | refine qR rfl ?_ | refine qK ?_ | refine qE ?_ | refine qW ?_ | refine qM ?_); try simp -dsimp (maxSteps := 2000000) (disch := first | omega | (simp only [qZ] <;> omega) | fail) only [push_cast, ↓qP, ↓reduceIte, Nat.reduceEqDiff, Nat.reduceAdd, Nat.reduceMul, Nat.reduceSub, Nat.reduceLeDiff, Int.reduceToNat, reduceCtorEq]) | (refine qA ?_ ?_; (first | omega | (simp only [qL]; omega) | (simp only [qD] at *; omega))))
    refine Ret.mk ⟨?_, rfl⟩
    simp [more3, hb]

theorem peek3 (h : At3 w a l s) (hi : s.i < l.length) : Calls Try.prog 72 #[.pointer (some ⟨a, 0, none⟩)] w fun e w' => e = .returned (.int .u8 ((byteAt l s.i).toNat : Int)) ∧ w.drew = w' := by
  have hlt := h.lt
  refine enter (n := 12) (args := [.pointer (some ⟨a, 0, none⟩)]) Try.func72 rfl rfl rfl (by simp) ?_
  repeat (first | refine qS ?_ | refine qB ?_ | refine qT rfl ?_ | refine qF rfl ?_ | ((first | refine qR rfl ?_ | refine qK ?_ | refine qE ?_ | refine qW ?_ | refine qM ?_); try simp -dsimp (maxSteps := 2000000) (disch := first | omega | (simp only [qZ] <;> omega) | fail) only [push_cast, ↓qP, ↓reduceIte, Nat.reduceEqDiff, Nat.reduceAdd, Nat.reduceMul, Nat.reduceSub, Nat.reduceLeDiff, Int.reduceToNat, reduceCtorEq]) | (refine qA ?_ ?_; (first | omega | (simp only [qL]; omega) | (simp only [qD] at *; omega))))
  refine Wp.draw [0, 1, 3, 7, 0, 16, 48, 112, 255, 511] [] (.op 0 false false [] <| .op 1 false false [] <| .op 2 false false [] <| .op 3 false false [] <| .op 4 false false [] <| .op 5 false false [] <| .op 6 false false [] <| .op 7 false false [] <| .op 8 false false [] <| .op 9 false false [] <| .nil) mixed (by kernel_rfl) ?_
  simp -dsimp (maxSteps := 2000000) (disch := first | omega | (simp only [qZ] <;> omega) | fail) only [push_cast, ↓qP, ↓reduceIte, Nat.reduceEqDiff, Nat.reduceAdd, Nat.reduceMul, Nat.reduceSub, Nat.reduceLeDiff, Int.reduceToNat, reduceCtorEq, h.rdc]
  refine ⟨by omega, ?_⟩
  refine Sm.out ?_
  repeat (first | refine qS ?_ | refine qB ?_ | refine qT rfl ?_ | refine qF rfl ?_ | ((first | refine qR rfl ?_ | refine qK ?_ | refine qE ?_ | refine qW ?_ | refine qM ?_); try simp -dsimp (maxSteps := 2000000) (disch := first | omega | (simp only [qZ] <;> omega) | fail) only [push_cast, ↓qP, ↓reduceIte, Nat.reduceEqDiff, Nat.reduceAdd, Nat.reduceMul, Nat.reduceSub, Nat.reduceLeDiff, Int.reduceToNat, reduceCtorEq]) | (refine qA ?_ ?_; (first | omega | (simp only [qL]; omega) | (simp only [qD] at *; omega))))
  exact Ret.mk ⟨rfl, rfl⟩

/-- Is a byte of a class? -/
theorem in3_any (n : List UInt8) (c : Int) (w : World) : Calls Try.prog 108 #[.string (B n), .int .i64 c] w fun e w' => e = .returned (.tuple #[.bool (in3 n c).1, .bool (in3 n c).2]) ∧ w = w' := by
  refine enter (n := 135) (args := [.string (B n), .int .i64 c]) Try.func108 rfl rfl rfl (by simp) ?_
  refine Wp.seq (Wp.region rfl ?_)
  simp -dsimp (maxSteps := 2000000) (disch := first | omega | (simp only [qZ] <;> omega) | fail) only [push_cast, ↓qP, ↓reduceIte, Nat.reduceEqDiff, Nat.reduceAdd, Nat.reduceMul, Nat.reduceSub, Nat.reduceLeDiff, Int.reduceToNat, reduceCtorEq]
  refine Wp.cut (fun F' w' => w = w' ∧ F' 0 = .string (B n) ∧ F' 1 = .int .i64 c ∧ F' 6 = .bool (up3 c)) ?_ ?_
  · repeat' (first | refine qS ?_ | refine qB ?_ | refine qT rfl ?_ | refine qF rfl ?_ | ((first | refine qR rfl ?_ | refine qK ?_ | refine qE ?_ | refine qW ?_ | refine qM ?_); try simp -dsimp (maxSteps := 2000000) (disch := first | omega | (simp only [qZ] <;> omega) | fail) only [push_cast, ↓qP, ↓reduceIte, Nat.reduceEqDiff, Nat.reduceAdd, Nat.reduceMul, Nat.reduceSub, Nat.reduceLeDiff, Int.reduceToNat, reduceCtorEq]) | ((refine gsel.mk (fun hg => ?_) (fun hg => ?_)) <;> try simp -dsimp (maxSteps := 2000000) (disch := first | omega | (simp only [qZ] <;> omega) | fail) only [push_cast, ↓qP, ↓reduceIte, Nat.reduceEqDiff, Nat.reduceAdd, Nat.reduceMul, Nat.reduceSub, Nat.reduceLeDiff, Int.reduceToNat, reduceCtorEq, *]) | refine Wp.cond rfl (fun hg => ?_) (fun hg => ?_) | (refine qA ?_ ?_; (first | omega | (simp only [qL]; omega) | (simp only [qD] at *; omega))))
    all_goals refine Mid.mk ⟨rfl, ?_, ?_, ?_⟩
    all_goals first | rfl | (simp [upd, up3, *]; done) | skip
  rintro F _ ⟨rfl, f0, f1, f6⟩
  refine Wp.cut (fun F' w' => w = w' ∧ F' 0 = .string (B n) ∧ F' 1 = .int .i64 c ∧ F' 6 = .bool (up3 c) ∧ F' 7 = .bool (low3 c)) ?_ ?_
  · repeat' (first | refine qS ?_ | refine qB ?_ | refine qT rfl ?_ | refine qF rfl ?_ | ((first | refine qR rfl ?_ | refine qK ?_ | refine qE ?_ | refine qW ?_ | refine qM ?_); try simp -dsimp (maxSteps := 2000000) (disch := first | omega | (simp only [qZ] <;> omega) | fail) only [push_cast, ↓qP, ↓reduceIte, Nat.reduceEqDiff, Nat.reduceAdd, Nat.reduceMul, Nat.reduceSub, Nat.reduceLeDiff, Int.reduceToNat, reduceCtorEq, f0, f1, f6]) | ((refine gsel.mk (fun hg => ?_) (fun hg => ?_)) <;> try simp -dsimp (maxSteps := 2000000) (disch := first | omega | (simp only [qZ] <;> omega) | fail) only [push_cast, ↓qP, ↓reduceIte, Nat.reduceEqDiff, Nat.reduceAdd, Nat.reduceMul, Nat.reduceSub, Nat.reduceLeDiff, Int.reduceToNat, reduceCtorEq, f0, f1, f6, *]) | refine Wp.cond rfl (fun hg => ?_) (fun hg => ?_) | (refine qA ?_ ?_; (first | omega | (simp only [qL]; omega) | (simp only [qD] at *; omega))))
    all_goals refine Mid.mk ⟨rfl, ?_, ?_, ?_, ?_⟩
    all_goals first | rfl | (simp [upd, low3, *]; done) | skip
  rintro F _ ⟨rfl, f0, f1, f6, f7⟩
  refine Wp.cut (fun F' w' => w = w' ∧ F' 0 = .string (B n) ∧ F' 1 = .int .i64 c ∧ F' 6 = .bool (up3 c) ∧ F' 7 = .bool (low3 c) ∧ F' 8 = .bool (dig3 c)) ?_ ?_
  · repeat' (first | refine qS ?_ | refine qB ?_ | refine qT rfl ?_ | refine qF rfl ?_ | ((first | refine qR rfl ?_ | refine qK ?_ | refine qE ?_ | refine qW ?_ | refine qM ?_); try simp -dsimp (maxSteps := 2000000) (disch := first | omega | (simp only [qZ] <;> omega) | fail) only [push_cast, ↓qP, ↓reduceIte, Nat.reduceEqDiff, Nat.reduceAdd, Nat.reduceMul, Nat.reduceSub, Nat.reduceLeDiff, Int.reduceToNat, reduceCtorEq, f0, f1, f6, f7]) | ((refine gsel.mk (fun hg => ?_) (fun hg => ?_)) <;> try simp -dsimp (maxSteps := 2000000) (disch := first | omega | (simp only [qZ] <;> omega) | fail) only [push_cast, ↓qP, ↓reduceIte, Nat.reduceEqDiff, Nat.reduceAdd, Nat.reduceMul, Nat.reduceSub, Nat.reduceLeDiff, Int.reduceToNat, reduceCtorEq, f0, f1, f6, f7, *]) | refine Wp.cond rfl (fun hg => ?_) (fun hg => ?_) | (refine qA ?_ ?_; (first | omega | (simp only [qL]; omega) | (simp only [qD] at *; omega))))
    all_goals refine Mid.mk ⟨rfl, ?_, ?_, ?_, ?_, ?_⟩
    all_goals first | rfl | (simp [upd, dig3, *]; done) | skip
  rintro F _ ⟨rfl, f0, f1, f6, f7, f8⟩
  generalize hu : up3 c = u at *
  generalize hlw : low3 c = lw at *
  generalize hdg : dig3 c = dg at *
  repeat' (first | refine qS ?_ | refine qB ?_ | refine qT rfl ?_ | refine qF rfl ?_ | ((first | refine qR rfl ?_ | refine qK ?_ | refine qE ?_ | refine qW ?_ | refine qM ?_); try simp -dsimp (maxSteps := 2000000) (disch := first | omega | (simp only [qZ] <;> omega) | fail) only [push_cast, ↓qP, ↓reduceIte, Nat.reduceEqDiff, Nat.reduceAdd, Nat.reduceMul, Nat.reduceSub, Nat.reduceLeDiff, Int.reduceToNat, reduceCtorEq, f0, f1, f6, f7, f8]) | ((refine gsel.mk (fun hg => ?_) (fun hg => ?_)) <;> try simp -dsimp (maxSteps := 2000000) (disch := first | omega | (simp only [qZ] <;> omega) | fail) only [push_cast, ↓qP, ↓reduceIte, Nat.reduceEqDiff, Nat.reduceAdd, Nat.reduceMul, Nat.reduceSub, Nat.reduceLeDiff, Int.reduceToNat, reduceCtorEq, f0, f1, f6, f7, f8, *]) | refine Wp.cond rfl (fun hg => ?_) (fun hg => ?_) | (refine qA ?_ ?_; (first | omega | (simp only [qL]; omega) | (simp only [qD] at *; omega))))
  all_goals refine Ret.mk ⟨?_, rfl⟩
  all_goals (simp_all [in3, nAlpha, nDigit, nAlnum, nUpper, nLower, nSpace, nBlank, nPunct, nPrint, nGraph, nCntrl, nXdigit] <;> (first | omega | (intros; omega) | (intros; exfalso; omega)))
end
end Go.Proofs.Ytddichibegppjaa

/- The reference's reader of expressions: escapes, numbers. -/
namespace Go.Proofs.Ytddichibegppjaa
open Go Go.VC

theorem digs_iff (a b c : UInt8) : digs a b c = true ↔ a.toNat ≤ c.toNat ∧ c.toNat ≤ b.toNat := by simp [digs]

theorem more3_iff (l : List UInt8) (s : S3) : more3 l s = true ↔ s.f = 0 ∧ s.i < l.length := by simp [more3]
theorem digs_ge {a b c : UInt8} (h : digs a b c = true) : decide ((c.toNat : Int) ≥ (a.toNat : Int)) = true ∧ decide ((c.toNat : Int) ≤ (b.toNat : Int)) = true := by
  rw [digs_iff] at h; simp; omega

theorem u8_eq' (a b : UInt8) : ((a.toNat : Int) == (b.toNat : Int)) = (a == b) := by
  rw [Bool.eq_iff_iff]; simp [← UInt8.toNat_inj]; omega

theorem oct_wrap (n : Nat) : IntKind.u8.wrap ((n : Int).tmod 256) = ((UInt8.ofNat (n % 256)).toNat : Int) := by
  have h : (n : Int).tmod 256 = ((n % 256 : Nat) : Int) := by rw [Int.tmod_eq_emod_of_nonneg (by omega)]; omega
  rw [h, wrap_u8 (by omega)]
  simp

theorem S3.ext' {s t : S3} (h1 : t.f = s.f) (h2 : t.d = s.d) : ({ s with i := t.i } : S3) = t := by cases t; cases s; simp_all

section
variable {a : Nat} {l : List UInt8} {s : S3} {w : World}

set_option maxHeartbeats 4000000 in
theorem escape3_any (h : At3 w a l s) (hl : l.length ≤ 1000000) (hi : s.i ≤ 2000000) :
    Calls Try.prog 95 #[.pointer (some ⟨a, 0, none⟩)] w fun e w' => e = .returned (by8 (escape3 l s).1) ∧ At3 w' a l (escape3 l s).2 ∧ Kp (· = a) w w' := by
  have hlt := h.lt
  refine enter (n := 113) (args := [.pointer (some ⟨a, 0, none⟩)]) Try.func95 rfl rfl rfl (by simp) ?_
  repeat (first | refine qS ?_ | refine qB ?_ | refine qT rfl ?_ | refine qF rfl ?_ | ((first | refine qR rfl ?_ | refine qK ?_ | refine qE ?_ | refine qW ?_ | refine qM ?_); try simp -dsimp (maxSteps := 2000000) (disch := first | omega | (simp only [qZ] <;> omega) | fail) only [push_cast, ↓qP, ↓reduceIte, Nat.reduceEqDiff, Nat.reduceAdd, Nat.reduceMul, Nat.reduceSub, Nat.reduceLeDiff, Int.reduceToNat, reduceCtorEq, h.rdc, h.fz]) | (refine qA ?_ ?_; (first | omega | (simp only [qL]; omega) | (simp only [qD] at *; omega))))
  have h1 : At3 (w.setCell ⟨a, 1, none⟩ (.int .i64 ((s.i : Int) + 1))) a l s.on := h.set 1 _
  have k1 : Kp (· = a) w (w.setCell ⟨a, 1, none⟩ (.int .i64 ((s.i : Int) + 1))) := (Kp.refl (· = a) w).setCell (fun _ => rfl) _
  generalize (w.setCell ⟨a, 1, none⟩ (.int .i64 ((s.i : Int) + 1))) = w1 at *
  refine CallV.of isCall_71 (more3_any h1) ?_
  rintro _ _ ⟨rfl, rfl⟩
  rcases Bool.eq_false_or_eq_true (more3 l s.on) with hm | hm
  · obtain ⟨hf0, hlt1⟩ := (more3_iff l s.on).1 hm
    have hsi : s.on.i = s.i + 1 := rfl
    rw [hsi] at hlt1
    refine Sm.out ?_
    repeat (first | refine qS ?_ | refine qB ?_ | refine qT rfl ?_ | refine qF rfl ?_ | ((first | refine qR rfl ?_ | refine qK ?_ | refine qE ?_ | refine qW ?_ | refine qM ?_); try simp -dsimp (maxSteps := 2000000) (disch := first | omega | (simp only [qZ] <;> omega) | fail) only [push_cast, ↓qP, ↓reduceIte, Nat.reduceEqDiff, Nat.reduceAdd, Nat.reduceMul, Nat.reduceSub, Nat.reduceLeDiff, Int.reduceToNat, reduceCtorEq, hm]) | (refine qA ?_ ?_; (first | omega | (simp only [qL]; omega) | (simp only [qD] at *; omega))))
    refine CallV.of isCall_72 (peek3 h1.drew (by rw [hsi]; omega)) ?_
    rintro _ _ ⟨rfl, rfl⟩
    rw [hsi]
    have he : escape3 l s = if digs 48 55 (byteAt l (s.i + 1)) then (UInt8.ofNat ((oct3 l 3 (s.i + 1) 0).1 % 256), { s with i := (oct3 l 3 (s.i + 1) 0).2 }) else (escMap (byteAt l (s.i + 1)), s.on 2) := by
      unfold escape3; rw [if_pos hm]
    have h2 : At3 w1.drew.drew a l s.on := h1.drew.drew
    have k2 : Kp (· = a) w w1.drew.drew := k1.drew.drew
    have hlt2 := h2.lt
    generalize w1.drew.drew = w2 at *
    by_cases hd : digs 48 55 (byteAt l (s.i + 1)) = true
    · rw [if_pos hd] at he
      obtain ⟨d1, d2⟩ := digs_ge hd
      have d1' : decide (((byteAt l (s.i + 1)).toNat : Int) ≥ 48) = true := d1
      have d2' : decide (((byteAt l (s.i + 1)).toNat : Int) ≤ 55) = true := d2
      refine Sm.out ?_
      repeat (first | refine qS ?_ | refine qB ?_ | refine qT rfl ?_ | refine qF rfl ?_ | ((first | refine qR rfl ?_ | refine qK ?_ | refine qE ?_ | refine qW ?_ | refine qM ?_); try simp -dsimp (maxSteps := 2000000) (disch := first | omega | (simp only [qZ] <;> omega) | fail) only [push_cast, ↓qP, ↓reduceIte, Nat.reduceEqDiff, Nat.reduceAdd, Nat.reduceMul, Nat.reduceSub, Nat.reduceLeDiff, Int.reduceToNat, reduceCtorEq, d1', d2']) | (refine qA ?_ ?_; (first | omega | (simp only [qL]; omega) | (simp only [qD] at *; omega))))
      refine Wp.loop (α := Nat) (fun k F w3 => ∃ (t : S3) (n : Nat), F 0 = .pointer (some ⟨a, 0, none⟩) ∧ F 5 = .int .i64 k ∧ F 4 = .int .i64 n ∧ At3 w3 a l t ∧ Kp (· = a) w w3 ∧ k ≤ 3 ∧ t.i ≤ s.i + 1 + k ∧ n < 8 ^ k ∧ Hide (t.f = s.f ∧ t.d = s.d) ∧ Hide (oct3 l (3 - k) t.i n = oct3 l 3 (s.i + 1) 0)) (fun k => 3 - k) 0
        ⟨s.on, 0, ?_, ?_, ?_, h2, k2, by omega, by rw [hsi]; omega, by decide, ⟨rfl, rfl⟩, ⟨rfl⟩⟩ ?_
      · simp -dsimp (maxSteps := 2000000) (disch := first | omega | (simp only [qZ] <;> omega) | fail) only [push_cast, ↓qP, ↓reduceIte, Nat.reduceEqDiff, Nat.reduceAdd, Nat.reduceMul, Nat.reduceSub, Nat.reduceLeDiff, Int.reduceToNat, reduceCtorEq]
      · simp -dsimp (maxSteps := 2000000) (disch := first | omega | (simp only [qZ] <;> omega) | fail) only [push_cast, ↓qP, ↓reduceIte, Nat.reduceEqDiff, Nat.reduceAdd, Nat.reduceMul, Nat.reduceSub, Nat.reduceLeDiff, Int.reduceToNat, reduceCtorEq]
      · simp -dsimp (maxSteps := 2000000) (disch := first | omega | (simp only [qZ] <;> omega) | fail) only [push_cast, ↓qP, ↓reduceIte, Nat.reduceEqDiff, Nat.reduceAdd, Nat.reduceMul, Nat.reduceSub, Nat.reduceLeDiff, Int.reduceToNat, reduceCtorEq]
      rintro k F w3 ⟨t, n, f0, f5, f4, h3, k3, hk, hi3, hn', hfd, hoct⟩
      have hlt3 := h3.lt
      have hn : n < 512 := Nat.lt_of_lt_of_le hn' (Nat.pow_le_pow_right (by omega) hk : 8 ^ k ≤ 8 ^ 3)
      have hnk : Hide (n < 8 ^ k) := ⟨hn'⟩
      clear hn'
      replace he : Hide (escape3 l s = _) := ⟨he⟩
      by_cases hgo : k < 3 ∧ t.i < l.length ∧ digs 48 55 (byteAt l t.i) = true
      · obtain ⟨g1, g2, g3⟩ := hgo
        have g1' : decide ((k : Int) < 3) = true := by simp; omega
        have g2' : decide ((t.i : Int) < (l.length : Int)) = true := by simp; omega
        obtain ⟨c1, c2⟩ := digs_ge g3
        have c1' : decide (((byteAt l t.i).toNat : Int) ≥ 48) = true := c1
        have c2' : decide (((byteAt l t.i).toNat : Int) ≤ 55) = true := c2
        repeat (first | refine qS ?_ | refine qB ?_ | refine qT rfl ?_ | refine qF rfl ?_ | ((first | refine qR rfl ?_ | refine qK ?_ | refine qE ?_ | refine qW ?_ | refine qM ?_); try simp -dsimp (maxSteps := 2000000) (disch := first | omega | (simp only [qZ] <;> omega) | fail) only [push_cast, ↓qP, ↓reduceIte, Nat.reduceEqDiff, Nat.reduceAdd, Nat.reduceMul, Nat.reduceSub, Nat.reduceLeDiff, Int.reduceToNat, reduceCtorEq]) | (refine qA ?_ ?_; (first | omega | (simp only [qL]; omega) | (simp only [qD] at *; omega))))
        obtain ⟨c3, c4⟩ := (digs_iff _ _ _).1 g3
        change 48 ≤ (l.getD t.i 0).toNat at c3
        change (l.getD t.i 0).toNat ≤ 55 at c4
        have hstep : oct3 l (3 - k) t.i n = oct3 l (3 - (k + 1)) (t.i + 1) (8 * n + ((byteAt l t.i).toNat - 48)) := by
          rw [show 3 - k = (3 - (k + 1)) + 1 by omega]
          simp only [oct3]
          rw [if_pos (by rw [g3]; simp [g2])]
        replace hstep : Hide (oct3 l (3 - (k + 1)) (t.i + 1) (8 * n + ((byteAt l t.i).toNat - 48)) = oct3 l 3 (s.i + 1) 0) := ⟨by rw [← hstep]; exact hoct.out⟩
        refine Wp.draw [0, 1, 3, 7, 15, 31, 63, 7, 135, 391, 903, 1927, 4095, 8191, 16383, 32767, 65535, 131071, 262143, 32767, 557055, 1605631, 3702783, 8388607, 16777215, 33554431, 67108863, 134217727, 268435455, 536870911, 1073741823, 134217727, 2281701375, 6576668671, 15166603263, 34359738367, 68719476735, 137438953471] [] (.op 0 false false [] <| .op 1 false false [] <| .op 2 false false [] <| .op 3 false false [] <| .op 4 false false [] <| .op 5 false false [] <| .op 6 false false [] <| .op 7 false false [] <| .op 8 false false [] <| .op 9 false false [] <| .op 10 false false [] <| .op 11 false false [] <| .op 12 false false [] <| .op 13 false false [] <| .op 14 false false [] <| .op 15 false false [] <| .op 16 false false [] <| .op 17 false false [] <| .op 18 false false [] <| .op 19 false false [] <| .op 20 false false [] <| .op 21 false false [] <| .op 22 false false [] <| .op 23 false false [] <| .op 24 false false [] <| .op 25 false false [] <| .op 26 false false [] <| .op 27 false false [] <| .op 28 false false [] <| .op 29 false false [] <| .op 30 false false [] <| .op 31 false false [] <| .op 32 false false [] <| .op 33 false false [] <| .op 34 false false [] <| .op 35 false false [] <| .op 36 false false [] <| .op 37 false false [] <| .nil) mixed (by kernel_rfl) ?_
        simp -dsimp (maxSteps := 2000000) (disch := first | omega | (simp only [qZ] <;> omega) | fail) only [push_cast, ↓qP, ↓reduceIte, Nat.reduceEqDiff, Nat.reduceAdd, Nat.reduceMul, Nat.reduceSub, Nat.reduceLeDiff, Int.reduceToNat, reduceCtorEq, f0, f5, f4, h3.rdc, g1', g2', c1', c2']
        refine ⟨by omega, by omega, ?_⟩
        refine Sm.out ?_
        repeat (first | refine qS ?_ | refine qB ?_ | refine qT rfl ?_ | refine qF rfl ?_ | ((first | refine qR rfl ?_ | refine qK ?_ | refine qE ?_ | refine qW ?_ | refine qM ?_); try simp -dsimp (maxSteps := 2000000) (disch := first | omega | (simp only [qZ] <;> omega) | fail) only [push_cast, ↓qP, ↓reduceIte, Nat.reduceEqDiff, Nat.reduceAdd, Nat.reduceMul, Nat.reduceSub, Nat.reduceLeDiff, Int.reduceToNat, reduceCtorEq, f0, f5, f4]) | (refine qA ?_ ?_; (first | omega | (simp only [qL]; omega) | (simp only [qD] at *; omega))))
        refine Wp.draw [0, 1, 0, 4, 12, 28, 0, 64, 192, 448, 1020, 2044, 4092, 8191, 16383] [] (.op 0 false false [] <| .op 1 false false [] <| .op 2 false false [] <| .op 3 false false [] <| .op 4 false false [] <| .op 5 false false [] <| .op 6 false false [] <| .op 7 false false [] <| .op 8 false false [] <| .op 9 false false [] <| .op 10 false false [] <| .op 11 false false [] <| .op 12 false false [] <| .op 13 false false [] <| .op 14 false false [] <| .nil) mixed (by kernel_rfl) ?_
        simp -dsimp (maxSteps := 2000000) (disch := first | omega | (simp only [qZ] <;> omega) | fail) only [push_cast, ↓qP, ↓reduceIte, Nat.reduceEqDiff, Nat.reduceAdd, Nat.reduceMul, Nat.reduceSub, Nat.reduceLeDiff, Int.reduceToNat, reduceCtorEq, f0, f5, f4, h3.rdc]
        refine ⟨by omega, ?_⟩
        refine Sm.out ?_
        repeat (first | refine qS ?_ | refine qB ?_ | refine qT rfl ?_ | refine qF rfl ?_ | ((first | refine qR rfl ?_ | refine qK ?_ | refine qE ?_ | refine qW ?_ | refine qM ?_); try simp -dsimp (maxSteps := 2000000) (disch := first | omega | (simp only [qZ] <;> omega) | fail) only [push_cast, ↓qP, ↓reduceIte, Nat.reduceEqDiff, Nat.reduceAdd, Nat.reduceMul, Nat.reduceSub, Nat.reduceLeDiff, Int.reduceToNat, reduceCtorEq, f0, f5, f4, h3.rdc, h3.fz]) | (refine qA ?_ ?_; (first | omega | (simp only [qL]; omega) | (simp only [qD] at *; omega))))
        have h4 := h3.drew.drew.set 1 (.int .i64 ((t.i : Int) + 1))
        refine Again.mk (k + 1) ⟨t.on, 8 * n + ((l.getD t.i 0).toNat - 48), ?_, ?_, ?_, h4, (k3.drew.drew).setCell (fun _ => rfl) _, by omega, by show t.i + 1 ≤ _; omega, ?_, hfd, hstep⟩ (by omega)
        · simp -dsimp (maxSteps := 2000000) (disch := first | omega | (simp only [qZ] <;> omega) | fail) only [push_cast, ↓qP, ↓reduceIte, Nat.reduceEqDiff, Nat.reduceAdd, Nat.reduceMul, Nat.reduceSub, Nat.reduceLeDiff, Int.reduceToNat, reduceCtorEq, f0]
        · simp -dsimp (maxSteps := 2000000) (disch := first | omega | (simp only [qZ] <;> omega) | fail) only [push_cast, ↓qP, ↓reduceIte, Nat.reduceEqDiff, Nat.reduceAdd, Nat.reduceMul, Nat.reduceSub, Nat.reduceLeDiff, Int.reduceToNat, reduceCtorEq, f5]
        · simp -dsimp (maxSteps := 2000000) (disch := first | omega | (simp only [qZ] <;> omega) | fail) only [push_cast, ↓qP, ↓reduceIte, Nat.reduceEqDiff, Nat.reduceAdd, Nat.reduceMul, Nat.reduceSub, Nat.reduceLeDiff, Int.reduceToNat, reduceCtorEq, f4]
          congr 1
        · have := hnk.out
          rw [Nat.pow_succ]
          omega
      · have hout : oct3 l (3 - k) t.i n = (n, t.i) := by
          have : 3 - k = 0 ∨ ∃ m, 3 - k = m + 1 := by cases 3 - k <;> simp
          rcases this with e | ⟨m, e⟩
          · rw [e]; rfl
          · rw [e]; simp only [oct3]; rw [if_neg]; simp; intro h4; simpa using fun h5 => hgo ⟨by omega, h4, h5⟩
        have hoct' := hoct.out
        rw [hout] at hoct'
        have he' := he.out
        rw [← hoct'] at he'
        replace he' : Hide (escape3 l s = _) := ⟨he'⟩
        clear hoct' he hoct hout
        replace hgo : Hide _ := ⟨hgo⟩
        repeat (first | refine qS ?_ | refine qB ?_ | refine qT rfl ?_ | refine qF rfl ?_ | ((first | refine qR rfl ?_ | refine qK ?_ | refine qE ?_ | refine qW ?_ | refine qM ?_); try simp -dsimp (maxSteps := 2000000) (disch := first | omega | (simp only [qZ] <;> omega) | fail) only [push_cast, ↓qP, ↓reduceIte, Nat.reduceEqDiff, Nat.reduceAdd, Nat.reduceMul, Nat.reduceSub, Nat.reduceLeDiff, Int.reduceToNat, reduceCtorEq]) | (refine qA ?_ ?_; (first | omega | (simp only [qL]; omega) | (simp only [qD] at *; omega))))
        refine Wp.draw [0, 1, 3, 7, 15, 31, 63, 7, 135, 391, 903, 1927, 4095, 8191, 16383, 32767, 65535, 131071, 262143, 32767, 557055, 1605631, 3702783, 8388607, 16777215, 33554431, 67108863, 134217727, 268435455, 536870911, 1073741823, 134217727, 2281701375, 6576668671, 15166603263, 34359738367, 68719476735, 137438953471] [] (.op 0 false false [] <| .op 1 false false [] <| .op 2 false false [] <| .op 3 false false [] <| .op 4 false false [] <| .op 5 false false [] <| .op 6 false false [] <| .op 7 false false [] <| .op 8 false false [] <| .op 9 false false [] <| .op 10 false false [] <| .op 11 false false [] <| .op 12 false false [] <| .op 13 false false [] <| .op 14 false false [] <| .op 15 false false [] <| .op 16 false false [] <| .op 17 false false [] <| .op 18 false false [] <| .op 19 false false [] <| .op 20 false false [] <| .op 21 false false [] <| .op 22 false false [] <| .op 23 false false [] <| .op 24 false false [] <| .op 25 false false [] <| .op 26 false false [] <| .op 27 false false [] <| .op 28 false false [] <| .op 29 false false [] <| .op 30 false false [] <| .op 31 false false [] <| .op 32 false false [] <| .op 33 false false [] <| .op 34 false false [] <| .op 35 false false [] <| .op 36 false false [] <| .op 37 false false [] <| .nil) mixed (by kernel_rfl) ?_
        simp -dsimp (maxSteps := 2000000) (disch := first | omega | (simp only [qZ] <;> omega) | fail) only [push_cast, ↓qP, ↓reduceIte, Nat.reduceEqDiff, Nat.reduceAdd, Nat.reduceMul, Nat.reduceSub, Nat.reduceLeDiff, Int.reduceToNat, reduceCtorEq, f0, f5, f4, h3.rdc, h3.fz]
        repeat' (first | refine qS ?_ | refine qB ?_ | refine qT rfl ?_ | refine qF rfl ?_ | ((first | refine qR rfl ?_ | refine qK ?_ | refine qE ?_ | refine qW ?_ | refine qM ?_); try simp -dsimp (maxSteps := 2000000) (disch := first | omega | (simp only [qZ] <;> omega) | fail) only [push_cast, ↓qP, ↓reduceIte, Nat.reduceEqDiff, Nat.reduceAdd, Nat.reduceMul, Nat.reduceSub, Nat.reduceLeDiff, Int.reduceToNat, reduceCtorEq, f0, f5, f4, h3.rdc, h3.fz]) | ((refine gsel.mk (fun hg => ?_) (fun hg => ?_)) <;> try simp -dsimp (maxSteps := 2000000) (disch := first | omega | (simp only [qZ] <;> omega) | fail) only [push_cast, ↓qP, ↓reduceIte, Nat.reduceEqDiff, Nat.reduceAdd, Nat.reduceMul, Nat.reduceSub, Nat.reduceLeDiff, Int.reduceToNat, reduceCtorEq, f0, f5, f4, h3.rdc, h3.fz, *]) | refine Wp.cond rfl (fun hg => ?_) (fun hg => ?_) | (refine qA ?_ ?_; (first | omega | (simp only [qL]; omega) | (simp only [qD] at *; omega))))
        all_goals first
          | (exfalso; have hgo' := hgo.out; simp only [decide_eq_true_eq] at *; exact hgo' ⟨by omega, by omega, (digs_iff _ _ _).2 ⟨by show 48 ≤ (l.getD t.i 0).toNat; omega, by show (l.getD t.i 0).toNat ≤ 55; omega⟩⟩)
          | skip
        all_goals
          have hts := S3.ext' hfd.out.1 hfd.out.2
          have hee := he'.out
          rw [hts] at hee
          rw [hee]
          refine Ret.mk ⟨?_, h3.drew, k3.drew⟩
          rw [oct_wrap]
          rfl
    · rw [if_neg hd] at he
      rw [he]
      have hes : byteAt l s.on.i = byteAt l (s.i + 1) := rfl
      generalize byteAt l (s.i + 1) = c at *
      have hd' : digs 48 55 c = false := by simpa using hd
      have e0 : ∀ c u : UInt8, (c == u) = ((c.toNat : Int) == (u.toNat : Int)) := fun c u => (u8_eq' c u).symm
      repeat' (first | refine qS ?_ | refine qB ?_ | refine qT rfl ?_ | refine qF rfl ?_ | ((first | refine qR rfl ?_ | refine qK ?_ | refine qE ?_ | refine qW ?_ | refine qM ?_); try simp -dsimp (maxSteps := 2000000) (disch := first | omega | (simp only [qZ] <;> omega) | fail) only [push_cast, ↓qP, ↓reduceIte, Nat.reduceEqDiff, Nat.reduceAdd, Nat.reduceMul, Nat.reduceSub, Nat.reduceLeDiff, Int.reduceToNat, reduceCtorEq, h2.rdc, h2.fz]) | ((refine gsel.mk (fun hg => ?_) (fun hg => ?_)) <;> try simp -dsimp (maxSteps := 2000000) (disch := first | omega | (simp only [qZ] <;> omega) | fail) only [push_cast, ↓qP, ↓reduceIte, Nat.reduceEqDiff, Nat.reduceAdd, Nat.reduceMul, Nat.reduceSub, Nat.reduceLeDiff, Int.reduceToNat, reduceCtorEq, h2.rdc, h2.fz, *]) | refine Wp.cond rfl (fun hg => ?_) (fun hg => ?_) | (refine qA ?_ ?_; (first | omega | (simp only [qL]; omega) | (simp only [qD] at *; omega))))
      all_goals first
        | (refine Ret.mk ⟨?_, h2.set 1 (.int .i64 ((s.on.i : Int) + 1)), k2.setCell (fun _ => rfl) _⟩; simp_all [escMap, by8, e0]; done)
        | (exfalso; simp [digs] at hd'; simp only [decide_eq_true_eq] at *; omega)
  · refine Sm.out ?_
    repeat (first | refine qS ?_ | refine qB ?_ | refine qT rfl ?_ | refine qF rfl ?_ | ((first | refine qR rfl ?_ | refine qK ?_ | refine qE ?_ | refine qW ?_ | refine qM ?_); try simp -dsimp (maxSteps := 2000000) (disch := first | omega | (simp only [qZ] <;> omega) | fail) only [push_cast, ↓qP, ↓reduceIte, Nat.reduceEqDiff, Nat.reduceAdd, Nat.reduceMul, Nat.reduceSub, Nat.reduceLeDiff, Int.reduceToNat, reduceCtorEq, hm]) | (refine qA ?_ ?_; (first | omega | (simp only [qL]; omega) | (simp only [qD] at *; omega))))
    refine CallV.of isCall_50 (fail3 h1.drew 4) ?_
    rintro _ w2 ⟨rfl, h2, k2⟩
    refine Sm.out ?_
    repeat (first | refine qS ?_ | refine qB ?_ | refine qT rfl ?_ | refine qF rfl ?_ | ((first | refine qR rfl ?_ | refine qK ?_ | refine qE ?_ | refine qW ?_ | refine qM ?_); try simp -dsimp (maxSteps := 2000000) (disch := first | omega | (simp only [qZ] <;> omega) | fail) only [push_cast, ↓qP, ↓reduceIte, Nat.reduceEqDiff, Nat.reduceAdd, Nat.reduceMul, Nat.reduceSub, Nat.reduceLeDiff, Int.reduceToNat, reduceCtorEq]) | (refine qA ?_ ?_; (first | omega | (simp only [qL]; omega) | (simp only [qD] at *; omega))))
    have e : escape3 l s = (0, (s.on).fail 4) := by unfold escape3; rw [hm]; rfl
    rw [e]
    exact Ret.mk ⟨rfl, h2, k1.drew.trans k2⟩

theorem number3_any (h : At3 w a l s) (hl : l.length ≤ 1000000) (hi : s.i ≤ 2000000) :
    Calls Try.prog 92 #[.pointer (some ⟨a, 0, none⟩)] w fun e w' => e = .returned (.tuple #[.int .i64 (digit3 l s).1.1, .bool (digit3 l s).1.2]) ∧ At3 w' a l (digit3 l s).2 ∧ Kp (· = a) w w' := by
  have hlt := h.lt
  refine enter (n := 64) (args := [.pointer (some ⟨a, 0, none⟩)]) Try.func92 rfl rfl rfl (by simp) ?_
  repeat (first | refine qS ?_ | refine qB ?_ | refine qT rfl ?_ | refine qF rfl ?_ | ((first | refine qR rfl ?_ | refine qK ?_ | refine qE ?_ | refine qW ?_ | refine qM ?_); try simp -dsimp (maxSteps := 2000000) (disch := first | omega | (simp only [qZ] <;> omega) | fail) only [push_cast, ↓qP, ↓reduceIte, Nat.reduceEqDiff, Nat.reduceAdd, Nat.reduceMul, Nat.reduceSub, Nat.reduceLeDiff, Int.reduceToNat, reduceCtorEq, h.rdc]) | (refine qA ?_ ?_; (first | omega | (simp only [qL]; omega) | (simp only [qD] at *; omega))))
  refine Wp.loop (α := Nat) (fun k F w3 => ∃ (t : S3) (n : Int) (b : Bool), F 0 = .pointer (some ⟨a, 0, none⟩) ∧ F 4 = .int .i64 n ∧ F 5 = .bool b ∧ At3 w3 a l t ∧ Kp (· = a) w w3 ∧ k ≤ l.length ∧ t.i = s.i + k ∧ 0 ≤ n ∧ n ≤ 1000 ∧ Hide (t.f = s.f ∧ t.d = s.d) ∧ Hide (num3 l (l.length - k) t.i n b = num3 l l.length s.i 0 false)) (fun k => l.length - k) 0
    ⟨s, 0, false, ?_, ?_, ?_, h, Kp.refl _ _, by omega, by omega, by omega, by omega, ⟨rfl, rfl⟩, ⟨rfl⟩⟩ ?_
  · simp -dsimp (maxSteps := 2000000) (disch := first | omega | (simp only [qZ] <;> omega) | fail) only [push_cast, ↓qP, ↓reduceIte, Nat.reduceEqDiff, Nat.reduceAdd, Nat.reduceMul, Nat.reduceSub, Nat.reduceLeDiff, Int.reduceToNat, reduceCtorEq]
  · simp -dsimp (maxSteps := 2000000) (disch := first | omega | (simp only [qZ] <;> omega) | fail) only [push_cast, ↓qP, ↓reduceIte, Nat.reduceEqDiff, Nat.reduceAdd, Nat.reduceMul, Nat.reduceSub, Nat.reduceLeDiff, Int.reduceToNat, reduceCtorEq]
  · simp -dsimp (maxSteps := 2000000) (disch := first | omega | (simp only [qZ] <;> omega) | fail) only [push_cast, ↓qP, ↓reduceIte, Nat.reduceEqDiff, Nat.reduceAdd, Nat.reduceMul, Nat.reduceSub, Nat.reduceLeDiff, Int.reduceToNat, reduceCtorEq]
  rintro k F w3 ⟨t, n, b, f0, f4, f5, h3, k3, hk, hti, hn0, hn1, hfd, hnum⟩
  have hlt3 := h3.lt
  by_cases hgo : t.i < l.length ∧ digs 48 57 (byteAt l t.i) = true
  · obtain ⟨g2, g3⟩ := hgo
    have g2' : decide ((t.i : Int) < (l.length : Int)) = true := by simp; omega
    obtain ⟨c1, c2⟩ := digs_ge g3
    have c1' : decide (((byteAt l t.i).toNat : Int) ≥ 48) = true := c1
    have c2' : decide (((byteAt l t.i).toNat : Int) ≤ 57) = true := c2
    obtain ⟨c3, c4⟩ := (digs_iff _ _ _).1 g3
    change 48 ≤ (l.getD t.i 0).toNat at c3
    change (l.getD t.i 0).toNat ≤ 57 at c4
    have hstep : num3 l (l.length - k) t.i n b = num3 l (l.length - (k + 1)) (t.i + 1) (min (10 * n + ((byteAt l t.i).toNat - 48 : Int)) 1000) true := by
      rw [show l.length - k = (l.length - (k + 1)) + 1 by omega]
      simp only [num3]
      rw [if_pos (by rw [g3]; simp [g2])]
    replace hstep : Hide (num3 l (l.length - (k + 1)) (t.i + 1) (min (10 * n + ((byteAt l t.i).toNat - 48 : Int)) 1000) true = num3 l l.length s.i 0 false) := ⟨by rw [← hstep]; exact hnum.out⟩
    repeat (first | refine qS ?_ | refine qB ?_ | refine qT rfl ?_ | refine qF rfl ?_ | ((first | refine qR rfl ?_ | refine qK ?_ | refine qE ?_ | refine qW ?_ | refine qM ?_); try simp -dsimp (maxSteps := 2000000) (disch := first | omega | (simp only [qZ] <;> omega) | fail) only [push_cast, ↓qP, ↓reduceIte, Nat.reduceEqDiff, Nat.reduceAdd, Nat.reduceMul, Nat.reduceSub, Nat.reduceLeDiff, Int.reduceToNat, reduceCtorEq]) | (refine qA ?_ ?_; (first | omega | (simp only [qL]; omega) | (simp only [qD] at *; omega))))
    refine Wp.draw [0, 1, 3, 7, 0, 16, 48, 112, 240, 511, 1023, 2047, 4095, 8191, 16383, 2047, 34815, 100351, 231423, 524287, 1048575, 2097151, 4194303, 8388607, 16777215, 33554431, 67108863, 8388607, 142606335, 411041791, 947912703, 2147483647, 4294967295, 8589934591] [] (.op 0 false false [] <| .op 1 false false [] <| .op 2 false false [] <| .op 3 false false [] <| .op 4 false false [] <| .op 5 false false [] <| .op 6 false false [] <| .op 7 false false [] <| .op 8 false false [] <| .op 9 false false [] <| .op 10 false false [] <| .op 11 false false [] <| .op 12 false false [] <| .op 13 false false [] <| .op 14 false false [] <| .op 15 false false [] <| .op 16 false false [] <| .op 17 false false [] <| .op 18 false false [] <| .op 19 false false [] <| .op 20 false false [] <| .op 21 false false [] <| .op 22 false false [] <| .op 23 false false [] <| .op 24 false false [] <| .op 25 false false [] <| .op 26 false false [] <| .op 27 false false [] <| .op 28 false false [] <| .op 29 false false [] <| .op 30 false false [] <| .op 31 false false [] <| .op 32 false false [] <| .op 33 false false [] <| .nil) mixed (by kernel_rfl) ?_
    simp -dsimp (maxSteps := 2000000) (disch := first | omega | (simp only [qZ] <;> omega) | fail) only [push_cast, ↓qP, ↓reduceIte, Nat.reduceEqDiff, Nat.reduceAdd, Nat.reduceMul, Nat.reduceSub, Nat.reduceLeDiff, Int.reduceToNat, reduceCtorEq, f0, f4, f5, h3.rdc, g2', c1', c2']
    refine ⟨by omega, by omega, ?_⟩
    refine Sm.out ?_
    repeat (first | refine qS ?_ | refine qB ?_ | refine qT rfl ?_ | refine qF rfl ?_ | ((first | refine qR rfl ?_ | refine qK ?_ | refine qE ?_ | refine qW ?_ | refine qM ?_); try simp -dsimp (maxSteps := 2000000) (disch := first | omega | (simp only [qZ] <;> omega) | fail) only [push_cast, ↓qP, ↓reduceIte, Nat.reduceEqDiff, Nat.reduceAdd, Nat.reduceMul, Nat.reduceSub, Nat.reduceLeDiff, Int.reduceToNat, reduceCtorEq, f0, f4, f5]) | (refine qA ?_ ?_; (first | omega | (simp only [qL]; omega) | (simp only [qD] at *; omega))))
    refine Wp.draw [0, 1, 0, 4, 12, 28, 0, 64, 192, 448, 1020, 2044, 4092, 8191, 16383, 32767] [] (.op 0 false false [] <| .op 1 false false [] <| .op 2 false false [] <| .op 3 false false [] <| .op 4 false false [] <| .op 5 false false [] <| .op 6 false false [] <| .op 7 false false [] <| .op 8 false false [] <| .op 9 false false [] <| .op 10 false false [] <| .op 11 false false [] <| .op 12 false false [] <| .op 13 false false [] <| .op 14 false false [] <| .op 15 false false [] <| .nil) mixed (by kernel_rfl) ?_
    simp -dsimp (maxSteps := 2000000) (disch := first | omega | (simp only [qZ] <;> omega) | fail) only [push_cast, ↓qP, ↓reduceIte, Nat.reduceEqDiff, Nat.reduceAdd, Nat.reduceMul, Nat.reduceSub, Nat.reduceLeDiff, Int.reduceToNat, reduceCtorEq, f0, f4, f5, h3.rdc]
    refine ⟨by omega, ?_⟩
    refine Sm.out ?_
    repeat (first | refine qS ?_ | refine qB ?_ | refine qT rfl ?_ | refine qF rfl ?_ | ((first | refine qR rfl ?_ | refine qK ?_ | refine qE ?_ | refine qW ?_ | refine qM ?_); try simp -dsimp (maxSteps := 2000000) (disch := first | omega | (simp only [qZ] <;> omega) | fail) only [push_cast, ↓qP, ↓reduceIte, Nat.reduceEqDiff, Nat.reduceAdd, Nat.reduceMul, Nat.reduceSub, Nat.reduceLeDiff, Int.reduceToNat, reduceCtorEq, f0, f4, f5, h3.rdc, h3.fz]) | (refine qA ?_ ?_; (first | omega | (simp only [qL]; omega) | (simp only [qD] at *; omega))))
    have h4 := h3.drew.drew.set 1 (.int .i64 ((t.i : Int) + 1))
    refine Again.mk (k + 1) ⟨t.on, _, true, ?_, ?_, ?_, h4, (k3.drew.drew).setCell (fun _ => rfl) _, by omega, by show t.i + 1 = _; omega, ?_, ?_, hfd, hstep⟩ (by omega)
    · simp -dsimp (maxSteps := 2000000) (disch := first | omega | (simp only [qZ] <;> omega) | fail) only [push_cast, ↓qP, ↓reduceIte, Nat.reduceEqDiff, Nat.reduceAdd, Nat.reduceMul, Nat.reduceSub, Nat.reduceLeDiff, Int.reduceToNat, reduceCtorEq, f0]
    · simp -dsimp (maxSteps := 2000000) (disch := first | omega | (simp only [qZ] <;> omega) | fail) only [push_cast, ↓qP, ↓reduceIte, Nat.reduceEqDiff, Nat.reduceAdd, Nat.reduceMul, Nat.reduceSub, Nat.reduceLeDiff, Int.reduceToNat, reduceCtorEq, f4]
    · simp -dsimp (maxSteps := 2000000) (disch := first | omega | (simp only [qZ] <;> omega) | fail) only [push_cast, ↓qP, ↓reduceIte, Nat.reduceEqDiff, Nat.reduceAdd, Nat.reduceMul, Nat.reduceSub, Nat.reduceLeDiff, Int.reduceToNat, reduceCtorEq, f5]
    · show 0 ≤ min (10 * n + (((l.getD t.i 0).toNat : Int) - 48)) 1000; omega
    · show min (10 * n + (((l.getD t.i 0).toNat : Int) - 48)) 1000 ≤ 1000; omega
  · have hout : num3 l (l.length - k) t.i n b = ((n, b), t.i) := by
      have : l.length - k = 0 ∨ ∃ m, l.length - k = m + 1 := by cases l.length - k <;> simp
      rcases this with e | ⟨m, e⟩
      · rw [e]; rfl
      · rw [e]; simp only [num3]; rw [if_neg]; simp; intro h4; simpa using fun h5 => hgo ⟨h4, h5⟩
    have he : digit3 l s = ((n, b), t) := by
      unfold digit3
      rw [← hnum.out, hout]
      exact congrArg _ (S3.ext' hfd.out.1 hfd.out.2)
    rw [he]
    clear hout hnum he hti
    replace hgo : Hide _ := ⟨hgo⟩
    repeat (first | refine qS ?_ | refine qB ?_ | refine qT rfl ?_ | refine qF rfl ?_ | ((first | refine qR rfl ?_ | refine qK ?_ | refine qE ?_ | refine qW ?_ | refine qM ?_); try simp -dsimp (maxSteps := 2000000) (disch := first | omega | (simp only [qZ] <;> omega) | fail) only [push_cast, ↓qP, ↓reduceIte, Nat.reduceEqDiff, Nat.reduceAdd, Nat.reduceMul, Nat.reduceSub, Nat.reduceLeDiff, Int.reduceToNat, reduceCtorEq]) | (refine qA ?_ ?_; (first | omega | (simp only [qL]; omega) | (simp only [qD] at *; omega))))
    refine Wp.draw [0, 1, 3, 7, 0, 16, 48, 112, 240, 511, 1023, 2047, 4095, 8191, 16383, 2047, 34815, 100351, 231423, 524287, 1048575, 2097151, 4194303, 8388607, 16777215, 33554431, 67108863, 8388607, 142606335, 411041791, 947912703, 2147483647, 4294967295, 8589934591] [] (.op 0 false false [] <| .op 1 false false [] <| .op 2 false false [] <| .op 3 false false [] <| .op 4 false false [] <| .op 5 false false [] <| .op 6 false false [] <| .op 7 false false [] <| .op 8 false false [] <| .op 9 false false [] <| .op 10 false false [] <| .op 11 false false [] <| .op 12 false false [] <| .op 13 false false [] <| .op 14 false false [] <| .op 15 false false [] <| .op 16 false false [] <| .op 17 false false [] <| .op 18 false false [] <| .op 19 false false [] <| .op 20 false false [] <| .op 21 false false [] <| .op 22 false false [] <| .op 23 false false [] <| .op 24 false false [] <| .op 25 false false [] <| .op 26 false false [] <| .op 27 false false [] <| .op 28 false false [] <| .op 29 false false [] <| .op 30 false false [] <| .op 31 false false [] <| .op 32 false false [] <| .op 33 false false [] <| .nil) mixed (by kernel_rfl) ?_
    simp -dsimp (maxSteps := 2000000) (disch := first | omega | (simp only [qZ] <;> omega) | fail) only [push_cast, ↓qP, ↓reduceIte, Nat.reduceEqDiff, Nat.reduceAdd, Nat.reduceMul, Nat.reduceSub, Nat.reduceLeDiff, Int.reduceToNat, reduceCtorEq, f0, f4, f5, h3.rdc]
    repeat' (first | refine qS ?_ | refine qB ?_ | refine qT rfl ?_ | refine qF rfl ?_ | ((first | refine qR rfl ?_ | refine qK ?_ | refine qE ?_ | refine qW ?_ | refine qM ?_); try simp -dsimp (maxSteps := 2000000) (disch := first | omega | (simp only [qZ] <;> omega) | fail) only [push_cast, ↓qP, ↓reduceIte, Nat.reduceEqDiff, Nat.reduceAdd, Nat.reduceMul, Nat.reduceSub, Nat.reduceLeDiff, Int.reduceToNat, reduceCtorEq, f0, f4, f5, h3.rdc]) | ((refine gsel.mk (fun hg => ?_) (fun hg => ?_)) <;> try simp -dsimp (maxSteps := 2000000) (disch := first | omega | (simp only [qZ] <;> omega) | fail) only [push_cast, ↓qP, ↓reduceIte, Nat.reduceEqDiff, Nat.reduceAdd, Nat.reduceMul, Nat.reduceSub, Nat.reduceLeDiff, Int.reduceToNat, reduceCtorEq, f0, f4, f5, h3.rdc, *]) | refine Wp.cond rfl (fun hg => ?_) (fun hg => ?_) | (refine qA ?_ ?_; (first | omega | (simp only [qL]; omega) | (simp only [qD] at *; omega))))
    all_goals first
      | (exfalso; have hgo' := hgo.out; simp only [decide_eq_true_eq] at *; exact hgo' ⟨by omega, (digs_iff _ _ _).2 ⟨by show 48 ≤ (l.getD t.i 0).toNat; omega, by show (l.getD t.i 0).toNat ≤ 57; omega⟩⟩)
      | exact Ret.mk ⟨rfl, h3.drew, k3.drew⟩
end
end Go.Proofs.Ytddichibegppjaa

/- The reference's reader of expressions: repeats. -/
namespace Go.Proofs.Ytddichibegppjaa
open Go Go.VC

theorem num3_facts (l : List UInt8) : ∀ (k i : Nat) (n : Int) (b : Bool), 0 ≤ n → n ≤ 1000 → i ≤ (num3 l k i n b).2 ∧ (num3 l k i n b).2 ≤ max i l.length ∧ 0 ≤ (num3 l k i n b).1.1 ∧ (num3 l k i n b).1.1 ≤ 1000 := by
  intro k
  induction k with
  | zero => intro i n b h1 h2; simp only [num3]; exact ⟨Nat.le_refl _, by omega, h1, h2⟩
  | succ k ih =>
    intro i n b h1 h2
    simp only [num3]
    split
    · rename_i hc
      simp only [Bool.and_eq_true, decide_eq_true_eq] at hc
      have h3 := (digs_iff _ _ _).1 hc.2
      have h4 : 48 ≤ (byteAt l i).toNat := h3.1
      obtain ⟨q1, q2, q3, q4⟩ := ih (i + 1) (min (10 * n + ((byteAt l i).toNat - 48 : Int)) 1000) true (by omega) (by omega)
      exact ⟨by omega, by omega, q3, q4⟩
    · exact ⟨Nat.le_refl _, by omega, h1, h2⟩
theorem digit3_facts (l : List UInt8) (s : S3) : s.i ≤ (digit3 l s).2.i ∧ (digit3 l s).2.i ≤ max s.i l.length ∧ (digit3 l s).2.f = s.f ∧ (digit3 l s).2.d = s.d ∧ 0 ≤ (digit3 l s).1.1 ∧ (digit3 l s).1.1 ≤ 1000 := by
  obtain ⟨q1, q2, q3, q4⟩ := num3_facts l l.length s.i 0 false (by omega) (by omega)
  exact ⟨q1, q2, rfl, rfl, q3, q4⟩

section
variable {a : Nat} {l : List UInt8} {s : S3} {w : World}

theorem repeat3_any (h : At3 w a l s) (hl : l.length ≤ 1000000) (hi : s.i ≤ 1500000) :
    Calls Try.prog 84 #[.pointer (some ⟨a, 0, none⟩)] w fun e w' => e = .returned (.tuple #[.int .i64 (repeat3 l s).1.1, .int .i64 (repeat3 l s).1.2.1, .bool (repeat3 l s).1.2.2]) ∧ At3 w' a l (repeat3 l s).2 ∧ Kp (· = a) w w' := by
  have hlt := h.lt
  refine enter (n := 181) (args := [.pointer (some ⟨a, 0, none⟩)]) Try.func84 rfl rfl rfl (by simp) ?_
  repeat (first | refine qS ?_ | refine qB ?_ | refine qT rfl ?_ | refine qF rfl ?_ | ((first | refine qR rfl ?_ | refine qK ?_ | refine qE ?_ | refine qW ?_ | refine qM ?_); try simp -dsimp (maxSteps := 2000000) (disch := first | omega | (simp only [qZ] <;> omega) | fail) only [push_cast, ↓qP, ↓reduceIte, Nat.reduceEqDiff, Nat.reduceAdd, Nat.reduceMul, Nat.reduceSub, Nat.reduceLeDiff, Int.reduceToNat, reduceCtorEq]) | (refine qA ?_ ?_; (first | omega | (simp only [qL]; omega) | (simp only [qD] at *; omega))))
  refine CallV.of isCall_71 (more3_any h) ?_
  rintro _ _ ⟨rfl, rfl⟩
  rcases Bool.eq_false_or_eq_true (more3 l s) with hm | hm
  · obtain ⟨hf0, hlt1⟩ := (more3_iff l s).1 hm
    refine Sm.out ?_
    repeat (first | refine qS ?_ | refine qB ?_ | refine qT rfl ?_ | refine qF rfl ?_ | ((first | refine qR rfl ?_ | refine qK ?_ | refine qE ?_ | refine qW ?_ | refine qM ?_); try simp -dsimp (maxSteps := 2000000) (disch := first | omega | (simp only [qZ] <;> omega) | fail) only [push_cast, ↓qP, ↓reduceIte, Nat.reduceEqDiff, Nat.reduceAdd, Nat.reduceMul, Nat.reduceSub, Nat.reduceLeDiff, Int.reduceToNat, reduceCtorEq, hm]) | (refine qA ?_ ?_; (first | omega | (simp only [qL]; omega) | (simp only [qD] at *; omega))))
    refine CallV.of isCall_72 (peek3 h.drew hlt1) ?_
    rintro _ _ ⟨rfl, rfl⟩
    have h2 : At3 w.drew.drew a l s := h.drew.drew
    have k2 : Kp (· = a) w w.drew.drew := (Kp.refl (· = a) w).drew.drew
    have hlt2 := h2.lt
    generalize w.drew.drew = w2 at *
    by_cases c42 : byteAt l s.i = 42
    · have hrr : repeat3 l s = ((0, -1, true), s.on) := by simp only [repeat3, hm, Bool.not_true, Bool.false_eq_true, ↓reduceIte, beq_iff_eq, c42] <;> rfl
      have e1 : (((byteAt l s.i).toNat : Int) == 42) = true := by rw [c42]; rfl
      rw [hrr]
      refine Sm.out ?_
      repeat (first | refine qS ?_ | refine qB ?_ | refine qT rfl ?_ | refine qF rfl ?_ | ((first | refine qR rfl ?_ | refine qK ?_ | refine qE ?_ | refine qW ?_ | refine qM ?_); try simp -dsimp (maxSteps := 2000000) (disch := first | omega | (simp only [qZ] <;> omega) | fail) only [push_cast, ↓qP, ↓reduceIte, Nat.reduceEqDiff, Nat.reduceAdd, Nat.reduceMul, Nat.reduceSub, Nat.reduceLeDiff, Int.reduceToNat, reduceCtorEq, e1, h2.rdc, h2.fz]) | (refine qA ?_ ?_; (first | omega | (simp only [qL]; omega) | (simp only [qD] at *; omega))))
      exact Ret.mk ⟨rfl, h2.set 1 (.int .i64 ((s.i : Int) + 1)), k2.setCell (fun _ => rfl) _⟩
    have n42 : (((byteAt l s.i).toNat : Int) == 42) = false := by rw [show (42 : Int) = ((42 : UInt8).toNat : Int) from rfl, u8_eq']; simpa using c42
    by_cases c43 : byteAt l s.i = 43
    · have hrr : repeat3 l s = ((1, -1, true), s.on) := by simp only [repeat3, hm, Bool.not_true, Bool.false_eq_true, ↓reduceIte, beq_iff_eq, c42, c43] <;> rfl
      have e1 : (((byteAt l s.i).toNat : Int) == 43) = true := by rw [c43]; rfl
      rw [hrr]
      refine Sm.out ?_
      repeat (first | refine qS ?_ | refine qB ?_ | refine qT rfl ?_ | refine qF rfl ?_ | ((first | refine qR rfl ?_ | refine qK ?_ | refine qE ?_ | refine qW ?_ | refine qM ?_); try simp -dsimp (maxSteps := 2000000) (disch := first | omega | (simp only [qZ] <;> omega) | fail) only [push_cast, ↓qP, ↓reduceIte, Nat.reduceEqDiff, Nat.reduceAdd, Nat.reduceMul, Nat.reduceSub, Nat.reduceLeDiff, Int.reduceToNat, reduceCtorEq, n42, e1, h2.rdc, h2.fz]) | (refine qA ?_ ?_; (first | omega | (simp only [qL]; omega) | (simp only [qD] at *; omega))))
      exact Ret.mk ⟨rfl, h2.set 1 (.int .i64 ((s.i : Int) + 1)), k2.setCell (fun _ => rfl) _⟩
    have n43 : (((byteAt l s.i).toNat : Int) == 43) = false := by rw [show (43 : Int) = ((43 : UInt8).toNat : Int) from rfl, u8_eq']; simpa using c43
    by_cases c63 : byteAt l s.i = 63
    · have hrr : repeat3 l s = ((0, 1, true), s.on) := by simp only [repeat3, hm, Bool.not_true, Bool.false_eq_true, ↓reduceIte, beq_iff_eq, c42, c43, c63] <;> rfl
      have e1 : (((byteAt l s.i).toNat : Int) == 63) = true := by rw [c63]; rfl
      rw [hrr]
      refine Sm.out ?_
      repeat (first | refine qS ?_ | refine qB ?_ | refine qT rfl ?_ | refine qF rfl ?_ | ((first | refine qR rfl ?_ | refine qK ?_ | refine qE ?_ | refine qW ?_ | refine qM ?_); try simp -dsimp (maxSteps := 2000000) (disch := first | omega | (simp only [qZ] <;> omega) | fail) only [push_cast, ↓qP, ↓reduceIte, Nat.reduceEqDiff, Nat.reduceAdd, Nat.reduceMul, Nat.reduceSub, Nat.reduceLeDiff, Int.reduceToNat, reduceCtorEq, n42, n43, e1, h2.rdc, h2.fz]) | (refine qA ?_ ?_; (first | omega | (simp only [qL]; omega) | (simp only [qD] at *; omega))))
      exact Ret.mk ⟨rfl, h2.set 1 (.int .i64 ((s.i : Int) + 1)), k2.setCell (fun _ => rfl) _⟩
    have n63 : (((byteAt l s.i).toNat : Int) == 63) = false := by rw [show (63 : Int) = ((63 : UInt8).toNat : Int) from rfl, u8_eq']; simpa using c63
    by_cases c123 : byteAt l s.i = 123
    · have e1 : (((byteAt l s.i).toNat : Int) == 123) = true := by rw [c123]; rfl
      refine Sm.out ?_
      repeat (first | refine qS ?_ | refine qB ?_ | refine qT rfl ?_ | refine qF rfl ?_ | ((first | refine qR rfl ?_ | refine qK ?_ | refine qE ?_ | refine qW ?_ | refine qM ?_); try simp -dsimp (maxSteps := 2000000) (disch := first | omega | (simp only [qZ] <;> omega) | fail) only [push_cast, ↓qP, ↓reduceIte, Nat.reduceEqDiff, Nat.reduceAdd, Nat.reduceMul, Nat.reduceSub, Nat.reduceLeDiff, Int.reduceToNat, reduceCtorEq, n42, n43, n63, e1, h2.rdc]) | (refine qA ?_ ?_; (first | omega | (simp only [qL]; omega) | (simp only [qD] at *; omega))))
      have hrr : repeat3 l s = if decide ((s.i : Int) + 1 ≥ l.length) || !digs 48 57 (byteAt l (s.i + 1)) then ((0, 0, false), s) else
          let p := digit3 l s.on
          let m := p.1.1
          let s1 := p.2
          let comma := decide ((s1.i : Int) < l.length) && byteAt l s1.i == 44
          let q := digit3 l s1.on
          let n := if comma then (if q.1.2 then q.1.1 else -1) else m
          let s2 := if comma then q.2 else s1
          if decide ((s2.i : Int) ≥ l.length) || !(byteAt l s2.i == 125) || decide (m > 255) || decide (n > 255) || (decide (n ≥ 0) && decide (m > n)) then ((0, 0, false), s2.fail 3)
          else ((m, n, true), s2.on) := by
        simp only [repeat3, hm, Bool.not_true, Bool.false_eq_true, ↓reduceIte, beq_iff_eq, c42, c43, c63, c123] <;> rfl
      by_cases hgo : s.i + 1 < l.length ∧ digs 48 57 (byteAt l (s.i + 1)) = true
      · obtain ⟨g1, g2⟩ := hgo
        obtain ⟨d1, d2⟩ := digs_ge g2
        have d1' : decide (((byteAt l (s.i + 1)).toNat : Int) < 48) = false := by have := of_decide_eq_true d1; change ((byteAt l (s.i + 1)).toNat : Int) ≥ 48 at this; exact decide_eq_false (by omega)
        have d2' : decide (((byteAt l (s.i + 1)).toNat : Int) > 57) = false := by have := of_decide_eq_true d2; change ((byteAt l (s.i + 1)).toNat : Int) ≤ 57 at this; exact decide_eq_false (by omega)
        have g1' : decide ((s.i : Int) + 1 ≥ (l.length : Int)) = false := by simp; omega
        have hix : ((s.i : Int) + 1).toNat = s.i + 1 := by omega
        rw [if_neg (by rw [g1', g2]; simp)] at hrr
        refine Wp.draw [0, 1, 3, 7, 15, 0, 32, 96, 224, 480, 1023, 2047, 4095, 8191, 16383, 32767, 4095, 69631, 200703, 462847, 987135, 2097151, 4194303, 8388607, 16777215, 33554431, 67108863, 134217727, 268435455, 33554431, 570425343, 1644167167, 3791650815, 8086618111, 17179869183, 34359738367, 68719476735] [] (.op 0 false false [] <| .op 1 false false [] <| .op 2 false false [] <| .op 3 false false [] <| .op 4 false false [] <| .op 5 false false [] <| .op 6 false false [] <| .op 7 false false [] <| .op 8 false false [] <| .op 9 false false [] <| .op 10 false false [] <| .op 11 false false [] <| .op 12 false false [] <| .op 13 false false [] <| .op 14 false false [] <| .op 15 false false [] <| .op 16 false false [] <| .op 17 false false [] <| .op 18 false false [] <| .op 19 false false [] <| .op 20 false false [] <| .op 21 false false [] <| .op 22 false false [] <| .op 23 false false [] <| .op 24 false false [] <| .op 25 false false [] <| .op 26 false false [] <| .op 27 false false [] <| .op 28 false false [] <| .op 29 false false [] <| .op 30 false false [] <| .op 31 false false [] <| .op 32 false false [] <| .op 33 false false [] <| .op 34 false false [] <| .op 35 false false [] <| .op 36 false false [] <| .nil) mixed (by kernel_rfl) ?_
        simp -dsimp (maxSteps := 2000000) (disch := first | omega | (simp only [qZ] <;> omega) | fail) only [push_cast, ↓qP, ↓reduceIte, Nat.reduceEqDiff, Nat.reduceAdd, Nat.reduceMul, Nat.reduceSub, Nat.reduceLeDiff, Int.reduceToNat, reduceCtorEq, h2.rdc, g1', d1', d2', hix]
        refine ⟨by omega, by omega, ?_⟩
        refine Sm.out ?_
        repeat (first | refine qS ?_ | refine qB ?_ | refine qT rfl ?_ | refine qF rfl ?_ | ((first | refine qR rfl ?_ | refine qK ?_ | refine qE ?_ | refine qW ?_ | refine qM ?_); try simp -dsimp (maxSteps := 2000000) (disch := first | omega | (simp only [qZ] <;> omega) | fail) only [push_cast, ↓qP, ↓reduceIte, Nat.reduceEqDiff, Nat.reduceAdd, Nat.reduceMul, Nat.reduceSub, Nat.reduceLeDiff, Int.reduceToNat, reduceCtorEq, h2.rdc, h2.fz]) | (refine qA ?_ ?_; (first | omega | (simp only [qL]; omega) | (simp only [qD] at *; omega))))
        have h4 : At3 (w2.drew.setCell ⟨a, 1, none⟩ (.int .i64 ((s.i : Int) + 1))) a l s.on := h2.drew.set 1 _
        have k4 : Kp (· = a) w (w2.drew.setCell ⟨a, 1, none⟩ (.int .i64 ((s.i : Int) + 1))) := k2.drew.setCell (fun _ => rfl) _
        generalize (w2.drew.setCell ⟨a, 1, none⟩ (.int .i64 ((s.i : Int) + 1))) = w4 at *
        refine CallV.of isCall_92 (number3_any h4 hl (by show s.i + 1 ≤ _; omega)) ?_
        rintro _ w5 ⟨rfl, h5, k5⟩
        have hlt5 := h5.lt
        obtain ⟨q1, q2, q3, q4, q5, q6⟩ := digit3_facts l s.on
        change s.i + 1 ≤ _ at q1
        change _ ≤ max (s.i + 1) _ at q2
        generalize digit3 l s.on = p at *
        obtain ⟨⟨m, mb⟩, s1⟩ := p
        simp only at hrr h5 q1 q2 q3 q4 q5 q6
        refine Sm.out ?_
        repeat (first | refine qS ?_ | refine qB ?_ | refine qT rfl ?_ | refine qF rfl ?_ | ((first | refine qR rfl ?_ | refine qK ?_ | refine qE ?_ | refine qW ?_ | refine qM ?_); try simp -dsimp (maxSteps := 2000000) (disch := first | omega | (simp only [qZ] <;> omega) | fail) only [push_cast, ↓qP, ↓reduceIte, Nat.reduceEqDiff, Nat.reduceAdd, Nat.reduceMul, Nat.reduceSub, Nat.reduceLeDiff, Int.reduceToNat, reduceCtorEq]) | (refine qA ?_ ?_; (first | omega | (simp only [qL]; omega) | (simp only [qD] at *; omega))))
        by_cases hc : s1.i < l.length ∧ byteAt l s1.i = 44
        · obtain ⟨c1, c2⟩ := hc
          have c1' : decide ((s1.i : Int) < (l.length : Int)) = true := by simp; omega
          have c2' : (((byteAt l s1.i).toNat : Int) == 44) = true := by rw [c2]; rfl
          have c3' : (byteAt l s1.i == 44) = true := by rw [c2]; rfl
          simp only [c1', c3', Bool.and_self, ↓reduceIte] at hrr
          refine Wp.draw [0, 1, 3, 7, 0, 16, 48, 112, 240, 511, 1023, 2047, 4095, 8191, 16383, 2047, 34815, 100351, 231423, 524287, 1048575, 2097151] [] (.op 0 false false [] <| .op 1 false false [] <| .op 2 false false [] <| .op 3 false false [] <| .op 4 false false [] <| .op 5 false false [] <| .op 6 false false [] <| .op 7 false false [] <| .op 8 false false [] <| .op 9 false false [] <| .op 10 false false [] <| .op 11 false false [] <| .op 12 false false [] <| .op 13 false false [] <| .op 14 false false [] <| .op 15 false false [] <| .op 16 false false [] <| .op 17 false false [] <| .op 18 false false [] <| .op 19 false false [] <| .op 20 false false [] <| .op 21 false false [] <| .nil) mixed (by kernel_rfl) ?_
          simp -dsimp (maxSteps := 2000000) (disch := first | omega | (simp only [qZ] <;> omega) | fail) only [push_cast, ↓qP, ↓reduceIte, Nat.reduceEqDiff, Nat.reduceAdd, Nat.reduceMul, Nat.reduceSub, Nat.reduceLeDiff, Int.reduceToNat, reduceCtorEq, h5.rdc, c1', c2']
          refine ⟨by omega, ?_⟩
          refine Sm.out ?_
          repeat (first | refine qS ?_ | refine qB ?_ | refine qT rfl ?_ | refine qF rfl ?_ | ((first | refine qR rfl ?_ | refine qK ?_ | refine qE ?_ | refine qW ?_ | refine qM ?_); try simp -dsimp (maxSteps := 2000000) (disch := first | omega | (simp only [qZ] <;> omega) | fail) only [push_cast, ↓qP, ↓reduceIte, Nat.reduceEqDiff, Nat.reduceAdd, Nat.reduceMul, Nat.reduceSub, Nat.reduceLeDiff, Int.reduceToNat, reduceCtorEq, h5.rdc, h5.fz]) | (refine qA ?_ ?_; (first | omega | (simp only [qL]; omega) | (simp only [qD] at *; omega))))
          have h6 : At3 (w5.drew.setCell ⟨a, 1, none⟩ (.int .i64 ((s1.i : Int) + 1))) a l s1.on := h5.drew.set 1 _
          have k6 : Kp (· = a) w (w5.drew.setCell ⟨a, 1, none⟩ (.int .i64 ((s1.i : Int) + 1))) := (k4.trans k5).drew.setCell (fun _ => rfl) _
          generalize (w5.drew.setCell ⟨a, 1, none⟩ (.int .i64 ((s1.i : Int) + 1))) = w6 at *
          refine CallV.of isCall_92 (number3_any h6 hl (by show s1.i + 1 ≤ _; omega)) ?_
          rintro _ w7 ⟨rfl, h7, k7⟩
          have hlt7 := h7.lt
          obtain ⟨r1, r2, r3, r4, r5, r6⟩ := digit3_facts l s1.on
          change s1.i + 1 ≤ _ at r1
          change _ ≤ max (s1.i + 1) _ at r2
          generalize digit3 l s1.on = p2 at *
          obtain ⟨⟨n, nb⟩, s2⟩ := p2
          simp only at hrr h7 r1 r2 r3 r4 r5 r6
          cases nb with
          | true =>
            simp only [↓reduceIte] at hrr
            refine Sm.out ?_
            repeat (first | refine qS ?_ | refine qB ?_ | refine qT rfl ?_ | refine qF rfl ?_ | ((first | refine qR rfl ?_ | refine qK ?_ | refine qE ?_ | refine qW ?_ | refine qM ?_); try simp -dsimp (maxSteps := 2000000) (disch := first | omega | (simp only [qZ] <;> omega) | fail) only [push_cast, ↓qP, ↓reduceIte, Nat.reduceEqDiff, Nat.reduceAdd, Nat.reduceMul, Nat.reduceSub, Nat.reduceLeDiff, Int.reduceToNat, reduceCtorEq]) | (refine qA ?_ ?_; (first | omega | (simp only [qL]; omega) | (simp only [qD] at *; omega))))
            have ha := h7
            have ka := (k6.trans k7)
            have hlta := ha.lt
            replace hrr : Hide _ := ⟨hrr⟩
            refine Wp.draw [0, 1, 3, 7, 0, 16, 48, 112, 240, 511, 1023, 2047, 4095, 8191, 16383, 2047, 34815, 100351, 231423, 524287, 1048575, 2097151, 4194303, 8388607, 16777215, 33554431, 67108863, 134217727, 268435455, 536870911, 1073741823, 2147483647, 4294967295, 8589934591, 17179869183, 17179869183, 68719476735, 137438953471, 274877906943] [] (.op 0 false false [] <| .op 1 false false [] <| .op 2 false false [] <| .op 3 false false [] <| .op 4 false false [] <| .op 5 false false [] <| .op 6 false false [] <| .op 7 false false [] <| .op 8 false false [] <| .op 9 false false [] <| .op 10 false false [] <| .op 11 false false [] <| .op 12 false false [] <| .op 13 false false [] <| .op 14 false false [] <| .op 15 false false [] <| .op 16 false false [] <| .op 17 false false [] <| .op 18 false false [] <| .op 19 false false [] <| .op 20 false false [] <| .op 21 false false [] <| .op 22 false false [] <| .op 23 false false [] <| .op 24 false false [] <| .op 25 false false [] <| .op 26 false false [] <| .op 27 false false [] <| .op 28 false false [] <| .op 29 false false [] <| .op 30 false false [] <| .op 31 false false [] <| .op 32 false false [] <| .op 33 false false [] <| .op 34 false false [] <| .op 35 false false [] <| .op 36 false false [] <| .op 37 false false [] <| .op 38 false false [] <| .nil) mixed (by kernel_rfl) ?_
            simp -dsimp (maxSteps := 2000000) (disch := first | omega | (simp only [qZ] <;> omega) | fail) only [push_cast, ↓qP, ↓reduceIte, Nat.reduceEqDiff, Nat.reduceAdd, Nat.reduceMul, Nat.reduceSub, Nat.reduceLeDiff, Int.reduceToNat, reduceCtorEq, ha.rdc, ha.fz]
            repeat' (first | refine qS ?_ | refine qB ?_ | refine qT rfl ?_ | refine qF rfl ?_ | ((first | refine qR rfl ?_ | refine qK ?_ | refine qE ?_ | refine qW ?_ | refine qM ?_); try simp -dsimp (maxSteps := 2000000) (disch := first | omega | (simp only [qZ] <;> omega) | fail) only [push_cast, ↓qP, ↓reduceIte, Nat.reduceEqDiff, Nat.reduceAdd, Nat.reduceMul, Nat.reduceSub, Nat.reduceLeDiff, Int.reduceToNat, reduceCtorEq, ha.rdc, ha.fz]) | ((refine gsel.mk (fun hg => ?_) (fun hg => ?_)) <;> try simp -dsimp (maxSteps := 2000000) (disch := first | omega | (simp only [qZ] <;> omega) | fail) only [push_cast, ↓qP, ↓reduceIte, Nat.reduceEqDiff, Nat.reduceAdd, Nat.reduceMul, Nat.reduceSub, Nat.reduceLeDiff, Int.reduceToNat, reduceCtorEq, ha.rdc, ha.fz, *]) | refine Wp.cond rfl (fun hg => ?_) (fun hg => ?_) | (refine qA ?_ ?_; (first | omega | (simp only [qL]; omega) | (simp only [qD] at *; omega))))
            all_goals
              have hr1 := hrr.out
              have e125 : ∀ c : UInt8, (c == 125) = ((c.toNat : Int) == 125) := fun c => (u8_eq' c 125).symm
              first
              | (rw [if_pos (by rw [e125]; simp_all <;> (intros; omega))] at hr1
                 refine CallV.of isCall_50 (fail3 ha.drew 3) ?_
                 rintro _ w9 ⟨rfl, h9, k9⟩
                 refine Sm.out ?_
                 repeat (first | refine qS ?_ | refine qB ?_ | refine qT rfl ?_ | refine qF rfl ?_ | ((first | refine qR rfl ?_ | refine qK ?_ | refine qE ?_ | refine qW ?_ | refine qM ?_); try simp -dsimp (maxSteps := 2000000) (disch := first | omega | (simp only [qZ] <;> omega) | fail) only [push_cast, ↓qP, ↓reduceIte, Nat.reduceEqDiff, Nat.reduceAdd, Nat.reduceMul, Nat.reduceSub, Nat.reduceLeDiff, Int.reduceToNat, reduceCtorEq]) | (refine qA ?_ ?_; (first | omega | (simp only [qL]; omega) | (simp only [qD] at *; omega))))
                 rw [hr1]
                 exact Ret.mk ⟨rfl, h9, ka.drew.trans k9⟩)
              | (rw [if_neg (by rw [e125]; simp_all <;> (intros; omega))] at hr1
                 rw [hr1]
                 exact Ret.mk ⟨rfl, ha.drew.set 1 (.int .i64 ((s2.i : Int) + 1)), ka.drew.setCell (fun _ => rfl) _⟩)
          | false =>
            simp only [Bool.false_eq_true, ↓reduceIte] at hrr
            generalize hnn : (-1 : Int) = n1 at *
            refine Sm.out ?_
            repeat (first | refine qS ?_ | refine qB ?_ | refine qT rfl ?_ | refine qF rfl ?_ | ((first | refine qR rfl ?_ | refine qK ?_ | refine qE ?_ | refine qW ?_ | refine qM ?_); try simp -dsimp (maxSteps := 2000000) (disch := first | omega | (simp only [qZ] <;> omega) | fail) only [push_cast, ↓qP, ↓reduceIte, Nat.reduceEqDiff, Nat.reduceAdd, Nat.reduceMul, Nat.reduceSub, Nat.reduceLeDiff, Int.reduceToNat, reduceCtorEq]) | (refine qA ?_ ?_; (first | omega | (simp only [qL]; omega) | (simp only [qD] at *; omega))))
            have ha := h7
            have ka := (k6.trans k7)
            have hlta := ha.lt
            replace hrr : Hide _ := ⟨hrr⟩
            refine Wp.draw [0, 1, 3, 7, 0, 16, 48, 112, 240, 511, 1023, 2047, 4095, 8191, 16383, 2047, 34815, 100351, 231423, 524287, 1048575, 2097151, 4194303, 8388607, 16777215, 33554431, 67108863, 134217727, 268435455, 536870911, 1073741823, 2147483647, 4294967295, 8589934591, 17179869183, 17179869183, 68719476735, 137438953471, 274877906943] [] (.op 0 false false [] <| .op 1 false false [] <| .op 2 false false [] <| .op 3 false false [] <| .op 4 false false [] <| .op 5 false false [] <| .op 6 false false [] <| .op 7 false false [] <| .op 8 false false [] <| .op 9 false false [] <| .op 10 false false [] <| .op 11 false false [] <| .op 12 false false [] <| .op 13 false false [] <| .op 14 false false [] <| .op 15 false false [] <| .op 16 false false [] <| .op 17 false false [] <| .op 18 false false [] <| .op 19 false false [] <| .op 20 false false [] <| .op 21 false false [] <| .op 22 false false [] <| .op 23 false false [] <| .op 24 false false [] <| .op 25 false false [] <| .op 26 false false [] <| .op 27 false false [] <| .op 28 false false [] <| .op 29 false false [] <| .op 30 false false [] <| .op 31 false false [] <| .op 32 false false [] <| .op 33 false false [] <| .op 34 false false [] <| .op 35 false false [] <| .op 36 false false [] <| .op 37 false false [] <| .op 38 false false [] <| .nil) mixed (by kernel_rfl) ?_
            simp -dsimp (maxSteps := 2000000) (disch := first | omega | (simp only [qZ] <;> omega) | fail) only [push_cast, ↓qP, ↓reduceIte, Nat.reduceEqDiff, Nat.reduceAdd, Nat.reduceMul, Nat.reduceSub, Nat.reduceLeDiff, Int.reduceToNat, reduceCtorEq, ha.rdc, ha.fz]
            repeat' (first | refine qS ?_ | refine qB ?_ | refine qT rfl ?_ | refine qF rfl ?_ | ((first | refine qR rfl ?_ | refine qK ?_ | refine qE ?_ | refine qW ?_ | refine qM ?_); try simp -dsimp (maxSteps := 2000000) (disch := first | omega | (simp only [qZ] <;> omega) | fail) only [push_cast, ↓qP, ↓reduceIte, Nat.reduceEqDiff, Nat.reduceAdd, Nat.reduceMul, Nat.reduceSub, Nat.reduceLeDiff, Int.reduceToNat, reduceCtorEq, ha.rdc, ha.fz]) | ((refine gsel.mk (fun hg => ?_) (fun hg => ?_)) <;> try simp -dsimp (maxSteps := 2000000) (disch := first | omega | (simp only [qZ] <;> omega) | fail) only [push_cast, ↓qP, ↓reduceIte, Nat.reduceEqDiff, Nat.reduceAdd, Nat.reduceMul, Nat.reduceSub, Nat.reduceLeDiff, Int.reduceToNat, reduceCtorEq, ha.rdc, ha.fz, *]) | refine Wp.cond rfl (fun hg => ?_) (fun hg => ?_) | (refine qA ?_ ?_; (first | omega | (simp only [qL]; omega) | (simp only [qD] at *; omega))))
            all_goals
              have hr1 := hrr.out
              have e125 : ∀ c : UInt8, (c == 125) = ((c.toNat : Int) == 125) := fun c => (u8_eq' c 125).symm
              first
              | (rw [if_pos (by rw [e125]; simp_all <;> (intros; omega))] at hr1
                 refine CallV.of isCall_50 (fail3 ha.drew 3) ?_
                 rintro _ w9 ⟨rfl, h9, k9⟩
                 refine Sm.out ?_
                 repeat (first | refine qS ?_ | refine qB ?_ | refine qT rfl ?_ | refine qF rfl ?_ | ((first | refine qR rfl ?_ | refine qK ?_ | refine qE ?_ | refine qW ?_ | refine qM ?_); try simp -dsimp (maxSteps := 2000000) (disch := first | omega | (simp only [qZ] <;> omega) | fail) only [push_cast, ↓qP, ↓reduceIte, Nat.reduceEqDiff, Nat.reduceAdd, Nat.reduceMul, Nat.reduceSub, Nat.reduceLeDiff, Int.reduceToNat, reduceCtorEq]) | (refine qA ?_ ?_; (first | omega | (simp only [qL]; omega) | (simp only [qD] at *; omega))))
                 rw [hr1]
                 exact Ret.mk ⟨rfl, h9, ka.drew.trans k9⟩)
              | (rw [if_neg (by rw [e125]; simp_all <;> (intros; omega))] at hr1
                 rw [hr1]
                 exact Ret.mk ⟨rfl, ha.drew.set 1 (.int .i64 ((s2.i : Int) + 1)), ka.drew.setCell (fun _ => rfl) _⟩)
        · have hcm : (decide ((s1.i : Int) < (l.length : Int)) && byteAt l s1.i == 44) = false := by
            rcases Nat.lt_or_ge s1.i l.length with h6 | h6
            · have : byteAt l s1.i ≠ 44 := fun e => hc ⟨h6, e⟩
              simp only [Bool.and_eq_false_iff]; right; simpa using this
            · simp only [Bool.and_eq_false_iff]; left; exact decide_eq_false (by omega)
          simp only [hcm, Bool.false_eq_true, ↓reduceIte] at hrr
          have hc2 : s1.i < l.length → (((byteAt l s1.i).toNat : Int) == 44) = false := fun h6 => by
            rw [show (44 : Int) = ((44 : UInt8).toNat : Int) from rfl, u8_eq']
            simpa using fun e => hc ⟨h6, e⟩
          rcases Nat.lt_or_ge s1.i l.length with h6 | h6
          · have c1' : decide ((s1.i : Int) < (l.length : Int)) = true := decide_eq_true (by omega)
            have c2' := hc2 h6
            clear hc2 hc hcm
            refine Wp.draw [0, 1, 3, 7, 0, 16, 48, 112, 240, 511, 1023, 2047, 4095, 8191, 16383, 2047, 34815, 100351, 231423, 524287, 1048575, 2097151] [] (.op 0 false false [] <| .op 1 false false [] <| .op 2 false false [] <| .op 3 false false [] <| .op 4 false false [] <| .op 5 false false [] <| .op 6 false false [] <| .op 7 false false [] <| .op 8 false false [] <| .op 9 false false [] <| .op 10 false false [] <| .op 11 false false [] <| .op 12 false false [] <| .op 13 false false [] <| .op 14 false false [] <| .op 15 false false [] <| .op 16 false false [] <| .op 17 false false [] <| .op 18 false false [] <| .op 19 false false [] <| .op 20 false false [] <| .op 21 false false [] <| .nil) mixed (by kernel_rfl) ?_
            simp -dsimp (maxSteps := 2000000) (disch := first | omega | (simp only [qZ] <;> omega) | fail) only [push_cast, ↓qP, ↓reduceIte, Nat.reduceEqDiff, Nat.reduceAdd, Nat.reduceMul, Nat.reduceSub, Nat.reduceLeDiff, Int.reduceToNat, reduceCtorEq, h5.rdc, c1', c2']
            refine ⟨by omega, ?_⟩
            refine Sm.out ?_
            repeat (first | refine qS ?_ | refine qB ?_ | refine qT rfl ?_ | refine qF rfl ?_ | ((first | refine qR rfl ?_ | refine qK ?_ | refine qE ?_ | refine qW ?_ | refine qM ?_); try simp -dsimp (maxSteps := 2000000) (disch := first | omega | (simp only [qZ] <;> omega) | fail) only [push_cast, ↓qP, ↓reduceIte, Nat.reduceEqDiff, Nat.reduceAdd, Nat.reduceMul, Nat.reduceSub, Nat.reduceLeDiff, Int.reduceToNat, reduceCtorEq]) | (refine qA ?_ ?_; (first | omega | (simp only [qL]; omega) | (simp only [qD] at *; omega))))
            have ha := h5.drew
            have ka := (k4.trans k5).drew
            have hlta := ha.lt
            replace hrr : Hide _ := ⟨hrr⟩
            refine Wp.draw [0, 1, 3, 7, 0, 16, 48, 112, 240, 511, 1023, 2047, 4095, 8191, 16383, 2047, 34815, 100351, 231423, 524287, 1048575, 2097151, 4194303, 8388607, 16777215, 33554431, 67108863, 134217727, 268435455, 536870911, 1073741823, 2147483647, 4294967295, 8589934591, 17179869183, 17179869183, 68719476735, 137438953471, 274877906943] [] (.op 0 false false [] <| .op 1 false false [] <| .op 2 false false [] <| .op 3 false false [] <| .op 4 false false [] <| .op 5 false false [] <| .op 6 false false [] <| .op 7 false false [] <| .op 8 false false [] <| .op 9 false false [] <| .op 10 false false [] <| .op 11 false false [] <| .op 12 false false [] <| .op 13 false false [] <| .op 14 false false [] <| .op 15 false false [] <| .op 16 false false [] <| .op 17 false false [] <| .op 18 false false [] <| .op 19 false false [] <| .op 20 false false [] <| .op 21 false false [] <| .op 22 false false [] <| .op 23 false false [] <| .op 24 false false [] <| .op 25 false false [] <| .op 26 false false [] <| .op 27 false false [] <| .op 28 false false [] <| .op 29 false false [] <| .op 30 false false [] <| .op 31 false false [] <| .op 32 false false [] <| .op 33 false false [] <| .op 34 false false [] <| .op 35 false false [] <| .op 36 false false [] <| .op 37 false false [] <| .op 38 false false [] <| .nil) mixed (by kernel_rfl) ?_
            simp -dsimp (maxSteps := 2000000) (disch := first | omega | (simp only [qZ] <;> omega) | fail) only [push_cast, ↓qP, ↓reduceIte, Nat.reduceEqDiff, Nat.reduceAdd, Nat.reduceMul, Nat.reduceSub, Nat.reduceLeDiff, Int.reduceToNat, reduceCtorEq, ha.rdc, ha.fz]
            repeat' (first | refine qS ?_ | refine qB ?_ | refine qT rfl ?_ | refine qF rfl ?_ | ((first | refine qR rfl ?_ | refine qK ?_ | refine qE ?_ | refine qW ?_ | refine qM ?_); try simp -dsimp (maxSteps := 2000000) (disch := first | omega | (simp only [qZ] <;> omega) | fail) only [push_cast, ↓qP, ↓reduceIte, Nat.reduceEqDiff, Nat.reduceAdd, Nat.reduceMul, Nat.reduceSub, Nat.reduceLeDiff, Int.reduceToNat, reduceCtorEq, ha.rdc, ha.fz]) | ((refine gsel.mk (fun hg => ?_) (fun hg => ?_)) <;> try simp -dsimp (maxSteps := 2000000) (disch := first | omega | (simp only [qZ] <;> omega) | fail) only [push_cast, ↓qP, ↓reduceIte, Nat.reduceEqDiff, Nat.reduceAdd, Nat.reduceMul, Nat.reduceSub, Nat.reduceLeDiff, Int.reduceToNat, reduceCtorEq, ha.rdc, ha.fz, *]) | refine Wp.cond rfl (fun hg => ?_) (fun hg => ?_) | (refine qA ?_ ?_; (first | omega | (simp only [qL]; omega) | (simp only [qD] at *; omega))))
            all_goals
              have hr1 := hrr.out
              have e125 : ∀ c : UInt8, (c == 125) = ((c.toNat : Int) == 125) := fun c => (u8_eq' c 125).symm
              first
              | (rw [if_pos (by rw [e125]; simp_all <;> (intros; omega))] at hr1
                 refine CallV.of isCall_50 (fail3 ha.drew 3) ?_
                 rintro _ w9 ⟨rfl, h9, k9⟩
                 refine Sm.out ?_
                 repeat (first | refine qS ?_ | refine qB ?_ | refine qT rfl ?_ | refine qF rfl ?_ | ((first | refine qR rfl ?_ | refine qK ?_ | refine qE ?_ | refine qW ?_ | refine qM ?_); try simp -dsimp (maxSteps := 2000000) (disch := first | omega | (simp only [qZ] <;> omega) | fail) only [push_cast, ↓qP, ↓reduceIte, Nat.reduceEqDiff, Nat.reduceAdd, Nat.reduceMul, Nat.reduceSub, Nat.reduceLeDiff, Int.reduceToNat, reduceCtorEq]) | (refine qA ?_ ?_; (first | omega | (simp only [qL]; omega) | (simp only [qD] at *; omega))))
                 rw [hr1]
                 exact Ret.mk ⟨rfl, h9, ka.drew.trans k9⟩)
              | (rw [if_neg (by rw [e125]; simp_all <;> (intros; omega))] at hr1
                 rw [hr1]
                 exact Ret.mk ⟨rfl, ha.drew.set 1 (.int .i64 ((s1.i : Int) + 1)), ka.drew.setCell (fun _ => rfl) _⟩)
          · have c1' : decide ((s1.i : Int) < (l.length : Int)) = false := decide_eq_false (by omega)
            clear hc2 hc hcm
            refine Wp.draw [0, 1, 3, 7, 0, 16, 48, 112, 240, 511, 1023, 2047, 4095, 8191, 16383, 2047, 34815, 100351, 231423, 524287, 1048575, 2097151] [] (.op 0 false false [] <| .op 1 false false [] <| .op 2 false false [] <| .op 3 false false [] <| .op 4 false false [] <| .op 5 false false [] <| .op 6 false false [] <| .op 7 false false [] <| .op 8 false false [] <| .op 9 false false [] <| .op 10 false false [] <| .op 11 false false [] <| .op 12 false false [] <| .op 13 false false [] <| .op 14 false false [] <| .op 15 false false [] <| .op 16 false false [] <| .op 17 false false [] <| .op 18 false false [] <| .op 19 false false [] <| .op 20 false false [] <| .op 21 false false [] <| .nil) mixed (by kernel_rfl) ?_
            simp -dsimp (maxSteps := 2000000) (disch := first | omega | (simp only [qZ] <;> omega) | fail) only [push_cast, ↓qP, ↓reduceIte, Nat.reduceEqDiff, Nat.reduceAdd, Nat.reduceMul, Nat.reduceSub, Nat.reduceLeDiff, Int.reduceToNat, reduceCtorEq, h5.rdc, c1']
            refine Sm.out ?_
            repeat (first | refine qS ?_ | refine qB ?_ | refine qT rfl ?_ | refine qF rfl ?_ | ((first | refine qR rfl ?_ | refine qK ?_ | refine qE ?_ | refine qW ?_ | refine qM ?_); try simp -dsimp (maxSteps := 2000000) (disch := first | omega | (simp only [qZ] <;> omega) | fail) only [push_cast, ↓qP, ↓reduceIte, Nat.reduceEqDiff, Nat.reduceAdd, Nat.reduceMul, Nat.reduceSub, Nat.reduceLeDiff, Int.reduceToNat, reduceCtorEq]) | (refine qA ?_ ?_; (first | omega | (simp only [qL]; omega) | (simp only [qD] at *; omega))))
            have ha := h5.drew
            have ka := (k4.trans k5).drew
            have hlta := ha.lt
            replace hrr : Hide _ := ⟨hrr⟩
            refine Wp.draw [0, 1, 3, 7, 0, 16, 48, 112, 240, 511, 1023, 2047, 4095, 8191, 16383, 2047, 34815, 100351, 231423, 524287, 1048575, 2097151, 4194303, 8388607, 16777215, 33554431, 67108863, 134217727, 268435455, 536870911, 1073741823, 2147483647, 4294967295, 8589934591, 17179869183, 17179869183, 68719476735, 137438953471, 274877906943] [] (.op 0 false false [] <| .op 1 false false [] <| .op 2 false false [] <| .op 3 false false [] <| .op 4 false false [] <| .op 5 false false [] <| .op 6 false false [] <| .op 7 false false [] <| .op 8 false false [] <| .op 9 false false [] <| .op 10 false false [] <| .op 11 false false [] <| .op 12 false false [] <| .op 13 false false [] <| .op 14 false false [] <| .op 15 false false [] <| .op 16 false false [] <| .op 17 false false [] <| .op 18 false false [] <| .op 19 false false [] <| .op 20 false false [] <| .op 21 false false [] <| .op 22 false false [] <| .op 23 false false [] <| .op 24 false false [] <| .op 25 false false [] <| .op 26 false false [] <| .op 27 false false [] <| .op 28 false false [] <| .op 29 false false [] <| .op 30 false false [] <| .op 31 false false [] <| .op 32 false false [] <| .op 33 false false [] <| .op 34 false false [] <| .op 35 false false [] <| .op 36 false false [] <| .op 37 false false [] <| .op 38 false false [] <| .nil) mixed (by kernel_rfl) ?_
            simp -dsimp (maxSteps := 2000000) (disch := first | omega | (simp only [qZ] <;> omega) | fail) only [push_cast, ↓qP, ↓reduceIte, Nat.reduceEqDiff, Nat.reduceAdd, Nat.reduceMul, Nat.reduceSub, Nat.reduceLeDiff, Int.reduceToNat, reduceCtorEq, ha.rdc, ha.fz]
            repeat' (first | refine qS ?_ | refine qB ?_ | refine qT rfl ?_ | refine qF rfl ?_ | ((first | refine qR rfl ?_ | refine qK ?_ | refine qE ?_ | refine qW ?_ | refine qM ?_); try simp -dsimp (maxSteps := 2000000) (disch := first | omega | (simp only [qZ] <;> omega) | fail) only [push_cast, ↓qP, ↓reduceIte, Nat.reduceEqDiff, Nat.reduceAdd, Nat.reduceMul, Nat.reduceSub, Nat.reduceLeDiff, Int.reduceToNat, reduceCtorEq, ha.rdc, ha.fz]) | ((refine gsel.mk (fun hg => ?_) (fun hg => ?_)) <;> try simp -dsimp (maxSteps := 2000000) (disch := first | omega | (simp only [qZ] <;> omega) | fail) only [push_cast, ↓qP, ↓reduceIte, Nat.reduceEqDiff, Nat.reduceAdd, Nat.reduceMul, Nat.reduceSub, Nat.reduceLeDiff, Int.reduceToNat, reduceCtorEq, ha.rdc, ha.fz, *]) | refine Wp.cond rfl (fun hg => ?_) (fun hg => ?_) | (refine qA ?_ ?_; (first | omega | (simp only [qL]; omega) | (simp only [qD] at *; omega))))
            all_goals
              have hr1 := hrr.out
              have e125 : ∀ c : UInt8, (c == 125) = ((c.toNat : Int) == 125) := fun c => (u8_eq' c 125).symm
              first
              | (rw [if_pos (by rw [e125]; simp_all <;> (intros; omega))] at hr1
                 refine CallV.of isCall_50 (fail3 ha.drew 3) ?_
                 rintro _ w9 ⟨rfl, h9, k9⟩
                 refine Sm.out ?_
                 repeat (first | refine qS ?_ | refine qB ?_ | refine qT rfl ?_ | refine qF rfl ?_ | ((first | refine qR rfl ?_ | refine qK ?_ | refine qE ?_ | refine qW ?_ | refine qM ?_); try simp -dsimp (maxSteps := 2000000) (disch := first | omega | (simp only [qZ] <;> omega) | fail) only [push_cast, ↓qP, ↓reduceIte, Nat.reduceEqDiff, Nat.reduceAdd, Nat.reduceMul, Nat.reduceSub, Nat.reduceLeDiff, Int.reduceToNat, reduceCtorEq]) | (refine qA ?_ ?_; (first | omega | (simp only [qL]; omega) | (simp only [qD] at *; omega))))
                 rw [hr1]
                 exact Ret.mk ⟨rfl, h9, ka.drew.trans k9⟩)
              | (rw [if_neg (by rw [e125]; simp_all <;> (intros; omega))] at hr1
                 rw [hr1]
                 exact Ret.mk ⟨rfl, ha.drew.set 1 (.int .i64 ((s1.i : Int) + 1)), ka.drew.setCell (fun _ => rfl) _⟩)
      · rw [if_pos (by
          simp only [Bool.or_eq_true, decide_eq_true_eq, Bool.not_eq_true']
          rcases Nat.lt_or_ge (s.i + 1) l.length with h5 | h5
          · right; simpa using fun h6 => hgo ⟨h5, h6⟩
          · left; omega)] at hrr
        rw [hrr]
        replace hgo : Hide _ := ⟨hgo⟩
        have hix : ((s.i : Int) + 1).toNat = s.i + 1 := by omega
        clear hrr
        refine Wp.draw [0, 1, 3, 7, 15, 0, 32, 96, 224, 480, 1023, 2047, 4095, 8191, 16383, 32767, 4095, 69631, 200703, 462847, 987135, 2097151, 4194303, 8388607, 16777215, 33554431, 67108863, 134217727, 268435455, 33554431, 570425343, 1644167167, 3791650815, 8086618111, 17179869183, 34359738367, 68719476735] [] (.op 0 false false [] <| .op 1 false false [] <| .op 2 false false [] <| .op 3 false false [] <| .op 4 false false [] <| .op 5 false false [] <| .op 6 false false [] <| .op 7 false false [] <| .op 8 false false [] <| .op 9 false false [] <| .op 10 false false [] <| .op 11 false false [] <| .op 12 false false [] <| .op 13 false false [] <| .op 14 false false [] <| .op 15 false false [] <| .op 16 false false [] <| .op 17 false false [] <| .op 18 false false [] <| .op 19 false false [] <| .op 20 false false [] <| .op 21 false false [] <| .op 22 false false [] <| .op 23 false false [] <| .op 24 false false [] <| .op 25 false false [] <| .op 26 false false [] <| .op 27 false false [] <| .op 28 false false [] <| .op 29 false false [] <| .op 30 false false [] <| .op 31 false false [] <| .op 32 false false [] <| .op 33 false false [] <| .op 34 false false [] <| .op 35 false false [] <| .op 36 false false [] <| .nil) mixed (by kernel_rfl) ?_
        simp -dsimp (maxSteps := 2000000) (disch := first | omega | (simp only [qZ] <;> omega) | fail) only [push_cast, ↓qP, ↓reduceIte, Nat.reduceEqDiff, Nat.reduceAdd, Nat.reduceMul, Nat.reduceSub, Nat.reduceLeDiff, Int.reduceToNat, reduceCtorEq, h2.rdc, hix]
        repeat' (first | refine qS ?_ | refine qB ?_ | refine qT rfl ?_ | refine qF rfl ?_ | ((first | refine qR rfl ?_ | refine qK ?_ | refine qE ?_ | refine qW ?_ | refine qM ?_); try simp -dsimp (maxSteps := 2000000) (disch := first | omega | (simp only [qZ] <;> omega) | fail) only [push_cast, ↓qP, ↓reduceIte, Nat.reduceEqDiff, Nat.reduceAdd, Nat.reduceMul, Nat.reduceSub, Nat.reduceLeDiff, Int.reduceToNat, reduceCtorEq, h2.rdc, hix]) | ((refine gsel.mk (fun hg => ?_) (fun hg => ?_)) <;> try simp -dsimp (maxSteps := 2000000) (disch := first | omega | (simp only [qZ] <;> omega) | fail) only [push_cast, ↓qP, ↓reduceIte, Nat.reduceEqDiff, Nat.reduceAdd, Nat.reduceMul, Nat.reduceSub, Nat.reduceLeDiff, Int.reduceToNat, reduceCtorEq, h2.rdc, hix, *]) | refine Wp.cond rfl (fun hg => ?_) (fun hg => ?_) | (refine qA ?_ ?_; (first | omega | (simp only [qL]; omega) | (simp only [qD] at *; omega))))
        all_goals first
          | exact Ret.mk ⟨rfl, h2.drew, k2.drew⟩
          | (exfalso; have hgo' := hgo.out; simp only [decide_eq_true_eq, decide_eq_false_iff_not] at *; exact hgo' ⟨by omega, (digs_iff _ _ _).2 ⟨by show 48 ≤ (l.getD (s.i + 1) 0).toNat; omega, by show (l.getD (s.i + 1) 0).toNat ≤ 57; omega⟩⟩)
    · have n123 : (((byteAt l s.i).toNat : Int) == 123) = false := by rw [show (123 : Int) = ((123 : UInt8).toNat : Int) from rfl, u8_eq']; simpa using c123
      have hrr : repeat3 l s = ((0, 0, false), s) := by simp only [repeat3, hm, Bool.not_true, Bool.false_eq_true, ↓reduceIte, beq_iff_eq, c42, c43, c63, c123]
      rw [hrr]
      refine Sm.out ?_
      repeat (first | refine qS ?_ | refine qB ?_ | refine qT rfl ?_ | refine qF rfl ?_ | ((first | refine qR rfl ?_ | refine qK ?_ | refine qE ?_ | refine qW ?_ | refine qM ?_); try simp -dsimp (maxSteps := 2000000) (disch := first | omega | (simp only [qZ] <;> omega) | fail) only [push_cast, ↓qP, ↓reduceIte, Nat.reduceEqDiff, Nat.reduceAdd, Nat.reduceMul, Nat.reduceSub, Nat.reduceLeDiff, Int.reduceToNat, reduceCtorEq, n42, n43, n63, n123, h2.rdc]) | (refine qA ?_ ?_; (first | omega | (simp only [qL]; omega) | (simp only [qD] at *; omega))))
      exact Ret.mk ⟨rfl, h2, k2⟩
  · refine Sm.out ?_
    repeat (first | refine qS ?_ | refine qB ?_ | refine qT rfl ?_ | refine qF rfl ?_ | ((first | refine qR rfl ?_ | refine qK ?_ | refine qE ?_ | refine qW ?_ | refine qM ?_); try simp -dsimp (maxSteps := 2000000) (disch := first | omega | (simp only [qZ] <;> omega) | fail) only [push_cast, ↓qP, ↓reduceIte, Nat.reduceEqDiff, Nat.reduceAdd, Nat.reduceMul, Nat.reduceSub, Nat.reduceLeDiff, Int.reduceToNat, reduceCtorEq, hm]) | (refine qA ?_ ?_; (first | omega | (simp only [qL]; omega) | (simp only [qD] at *; omega))))
    have hrr : repeat3 l s = ((0, 0, false), s) := by simp [repeat3, hm]
    rw [hrr]
    exact Ret.mk ⟨rfl, h.drew, (Kp.refl (· = a) w).drew⟩
end
end Go.Proofs.Ytddichibegppjaa

/- The reference's reader of expressions: all bytes. -/
namespace Go.Proofs.Ytddichibegppjaa
open Go Go.VC

def by8s (l : List UInt8) : List Value := l.map by8
theorem by8s_len (l : List UInt8) : (by8s l).length = l.length := by simp [by8s]
theorem by8s_append (a b : List UInt8) : by8s (a ++ b) = by8s a ++ by8s b := by simp [by8s]
theorem by8s_read {w : World} {g n cap : Nat} {l : List UInt8} (h : Own w 5 1 (some ⟨g, 0, none⟩) n cap (by8s l)) (hn : n = l.length) : ∀ j (hj : j < l.length), rdc w g (0 + j) = some (by8 l[j]) := by
  intro j hj
  rw [Nat.zero_add, h.rdc j (by omega), by8s, List.getElem?_map, List.getElem?_eq_getElem hj]; rfl
theorem by8s_str {w : World} {A : Option Addr} {n cap : Nat} {l : List UInt8} (h : Own w 5 1 A n cap (by8s l)) (hn : n = l.length) : l = [] ∨ ∃ b i, A = some ⟨b, i, none⟩ ∧ ∀ j (hj : j < l.length), rdc w b (i + j) = some (by8 l[j]) := by
  rcases Nat.eq_zero_or_pos n with h0 | h0
  · left; exact List.eq_nil_of_length_eq_zero (by omega)
  · obtain ⟨g, rfl, _⟩ := h.some h0
    exact .inr ⟨g, 0, rfl, by8s_read h hn⟩

theorem all_take (k : Nat) (hk : k < 256) : allBytes.take (k + 1) = allBytes.take k ++ [UInt8.ofNat k] := by
  have hl : allBytes.length = 256 := by simp [allBytes]
  rw [List.take_succ_eq_append_getElem (by omega)]
  simp [allBytes]

theorem all3_any (w : World) : Calls Try.prog 93 #[] w fun e w' => e = .returned (.string (B allBytes)) ∧ Kp (fun _ => False) w w' := by
  refine enter (n := 14) (args := []) Try.func93 rfl rfl rfl (by simp) ?_
  repeat (first | refine qS ?_ | refine qB ?_ | refine qT rfl ?_ | refine qF rfl ?_ | ((first | refine qR rfl ?_ | refine qK ?_ | refine qE ?_ | refine qW ?_ | refine qM ?_); try simp -dsimp (maxSteps := 2000000) (disch := first | omega | (simp only [qZ] <;> omega) | fail) only [push_cast, ↓qP, ↓reduceIte, Nat.reduceEqDiff, Nat.reduceAdd, Nat.reduceMul, Nat.reduceSub, Nat.reduceLeDiff, Int.reduceToNat, reduceCtorEq]) | (refine qA ?_ ?_; (first | omega | (simp only [qL]; omega) | (simp only [qD] at *; omega))))
  refine Wp.loop (α := Nat) (fun k F w2 => ∃ A cap, F 1 = .slice A k cap ∧ F 2 = .int .i64 k ∧ k ≤ 256 ∧ Own w2 5 1 A k cap (by8s (allBytes.take k)) ∧ (∀ g, bk A = some g → w.heap.size ≤ g) ∧ Kp (fun _ => False) w w2) (fun k => 256 - k) 0
    ⟨none, 0, rfl, rfl, by omega, Own.nil _ _ _, by simp [bk], Kp.refl _ _⟩ ?_
  rintro k F w2 ⟨A, cap, f1, f2, hk, hown, hnew, hkp⟩
  by_cases hlt : k < 256
  · have c1 : decide ((k : Int) < 256) = true := decide_eq_true (by omega)
    repeat (first | refine qS ?_ | refine qB ?_ | refine qT rfl ?_ | refine qF rfl ?_ | ((first | refine qR rfl ?_ | refine qK ?_ | refine qE ?_ | refine qW ?_ | refine qM ?_); try simp -dsimp (maxSteps := 2000000) (disch := first | omega | (simp only [qZ] <;> omega) | fail) only [push_cast, ↓qP, ↓reduceIte, Nat.reduceEqDiff, Nat.reduceAdd, Nat.reduceMul, Nat.reduceSub, Nat.reduceLeDiff, Int.reduceToNat, reduceCtorEq, f1, f2, c1]) | (refine qA ?_ ?_; (first | omega | (simp only [qL]; omega) | (simp only [qD] at *; omega))))
    refine V_append (m := 1) _ _ _ rfl mk_63 rfl (hown.alloc _) rfl [.int .u8 k] ?r rfl (by omega) (by omega) ?k
    case r => simp -dsimp (maxSteps := 2000000) (disch := first | omega | (simp only [qZ] <;> omega) | fail) only [push_cast, ↓qP, ↓reduceIte, Nat.reduceEqDiff, Nat.reduceAdd, Nat.reduceMul, Nat.reduceSub, Nat.reduceLeDiff, Int.reduceToNat, reduceCtorEq]
    case k =>
      intro A' cap' w3 hown' hgrow hat
      refine Sm.out ?_
      repeat (first | refine qS ?_ | refine qB ?_ | refine qT rfl ?_ | refine qF rfl ?_ | ((first | refine qR rfl ?_ | refine qK ?_ | refine qE ?_ | refine qW ?_ | refine qM ?_); try simp -dsimp (maxSteps := 2000000) (disch := first | omega | (simp only [qZ] <;> omega) | fail) only [push_cast, ↓qP, ↓reduceIte, Nat.reduceEqDiff, Nat.reduceAdd, Nat.reduceMul, Nat.reduceSub, Nat.reduceLeDiff, Int.reduceToNat, reduceCtorEq, f1, f2]) | (refine qA ?_ ?_; (first | omega | (simp only [qL]; omega) | (simp only [qD] at *; omega))))
      refine Again.mk (k + 1) ⟨A', cap', ?_, ?_, by omega, ?_, ?_, (hkp.alloc _).grown hgrow (fun g hg hl => by have := hnew g hg; omega)⟩ (by omega)
      · simp -dsimp (maxSteps := 2000000) (disch := first | omega | (simp only [qZ] <;> omega) | fail) only [push_cast, ↓qP, ↓reduceIte, Nat.reduceEqDiff, Nat.reduceAdd, Nat.reduceMul, Nat.reduceSub, Nat.reduceLeDiff, Int.reduceToNat, reduceCtorEq]
      · simp -dsimp (maxSteps := 2000000) (disch := first | omega | (simp only [qZ] <;> omega) | fail) only [push_cast, ↓qP, ↓reduceIte, Nat.reduceEqDiff, Nat.reduceAdd, Nat.reduceMul, Nat.reduceSub, Nat.reduceLeDiff, Int.reduceToNat, reduceCtorEq]
      · rw [all_take k hlt, by8s_append]
        have : by8s [UInt8.ofNat k] = [.int .u8 k] := by simp [by8s, by8]; omega
        rw [this]; exact hown'
      · intro g hg
        rcases hat with h | h
        · exact hnew g (h ▸ hg)
        · rw [h] at hg; simp at hg; subst hg; have := hkp.size; simp; omega
  · have c1 : decide ((k : Int) < 256) = false := decide_eq_false (by omega)
    obtain rfl : k = 256 := by omega
    have hl : allBytes.length = 256 := by simp [allBytes]
    rw [List.take_of_length_le (by omega)] at hown
    repeat (first | refine qS ?_ | refine qB ?_ | refine qT rfl ?_ | refine qF rfl ?_ | ((first | refine qR rfl ?_ | refine qK ?_ | refine qE ?_ | refine qW ?_ | refine qM ?_); try simp -dsimp (maxSteps := 2000000) (disch := first | omega | (simp only [qZ] <;> omega) | fail) only [push_cast, ↓qP, ↓reduceIte, Nat.reduceEqDiff, Nat.reduceAdd, Nat.reduceMul, Nat.reduceSub, Nat.reduceLeDiff, Int.reduceToNat, reduceCtorEq, f1, f2, c1]) | (refine qA ?_ ?_; (first | omega | (simp only [qL]; omega) | (simp only [qD] at *; omega))))
    refine V_str 63 9 _ rfl se_63 ik_5 isStr_9 allBytes rfl (by rw [hl]) (by8s_str hown (by rw [hl])) ?_
    refine Sm.out ?_
    repeat (first | refine qS ?_ | refine qB ?_ | refine qT rfl ?_ | refine qF rfl ?_ | ((first | refine qR rfl ?_ | refine qK ?_ | refine qE ?_ | refine qW ?_ | refine qM ?_); try simp -dsimp (maxSteps := 2000000) (disch := first | omega | (simp only [qZ] <;> omega) | fail) only [push_cast, ↓qP, ↓reduceIte, Nat.reduceEqDiff, Nat.reduceAdd, Nat.reduceMul, Nat.reduceSub, Nat.reduceLeDiff, Int.reduceToNat, reduceCtorEq]) | (refine qA ?_ ?_; (first | omega | (simp only [qL]; omega) | (simp only [qD] at *; omega))))
    exact Ret.mk ⟨rfl, hkp⟩
end Go.Proofs.Ytddichibegppjaa

/- The reference's reader of expressions: items of sets. -/
namespace Go.Proofs.Ytddichibegppjaa
open Go Go.VC

def bools (set : List Bool) : List Value := set.map Value.bool
theorem h91 (c : UInt8) : ((c.toNat : Int) == 91) = (c == 91) := u8_eq' c 91
theorem h58 (c : UInt8) : ((c.toNat : Int) == 58) = (c == 58) := u8_eq' c 58
theorem h93 (c : UInt8) : ((c.toNat : Int) == 93) = (c == 93) := u8_eq' c 93
theorem eqb (c k : UInt8) : ((c.toNat : Int) == (k.toNat : Int)) = (c == k) := u8_eq' c k

section
variable {a g : Nat} {l : List UInt8} {s : S3} {w : World} {set : List Bool}

theorem item3_any (h : At3 w a l s) (hb : Blk w g 4 (bools set)) (hset : set.length = 256) (hl : l.length ≤ 1000000) (hi : s.i < l.length) :
    Calls Try.prog 101 #[.pointer (some ⟨a, 0, none⟩), .slice (some ⟨g, 0, none⟩) 256 256] w fun e w' =>
      e = .returned (.tuple #[by8 (item3 l s set).1.1, .bool (item3 l s set).1.2]) ∧ At3 w' a l (item3 l s set).2.2 ∧ Blk w' g 4 (bools (item3 l s set).2.1) ∧ Kp (fun b => b = a ∨ b = g) w w' := by
  have hlt := h.lt
  have hne : a ≠ g := h.ne hb (by decide)
  have hgl := hb.lt
  refine enter (n := 133) (args := [.pointer (some ⟨a, 0, none⟩), .slice (some ⟨g, 0, none⟩) 256 256]) Try.func101 rfl rfl rfl (by simp) ?_
  repeat (first | refine qS ?_ | refine qB ?_ | refine qT rfl ?_ | refine qF rfl ?_ | ((first | refine qR rfl ?_ | refine qK ?_ | refine qE ?_ | refine qW ?_ | refine qM ?_); try simp -dsimp (maxSteps := 2000000) (disch := first | omega | (simp only [qZ] <;> omega) | fail) only [push_cast, ↓qP, ↓reduceIte, Nat.reduceEqDiff, Nat.reduceAdd, Nat.reduceMul, Nat.reduceSub, Nat.reduceLeDiff, Int.reduceToNat, reduceCtorEq]) | (refine qA ?_ ?_; (first | omega | (simp only [qL]; omega) | (simp only [qD] at *; omega))))
  refine CallV.of isCall_72 (peek3 h hi) ?_
  rintro _ _ ⟨rfl, rfl⟩
  refine Sm.out ?_
  repeat (first | refine qS ?_ | refine qB ?_ | refine qT rfl ?_ | refine qF rfl ?_ | ((first | refine qR rfl ?_ | refine qK ?_ | refine qE ?_ | refine qW ?_ | refine qM ?_); try simp -dsimp (maxSteps := 2000000) (disch := first | omega | (simp only [qZ] <;> omega) | fail) only [push_cast, ↓qP, ↓reduceIte, Nat.reduceEqDiff, Nat.reduceAdd, Nat.reduceMul, Nat.reduceSub, Nat.reduceLeDiff, Int.reduceToNat, reduceCtorEq]) | (refine qA ?_ ?_; (first | omega | (simp only [qL]; omega) | (simp only [qD] at *; omega))))
  have h2 : At3 w.drew a l s := h.drew
  have hb2 : Blk w.drew g 4 (bools set) := hb.drew
  have k2 : Kp (fun b => b = a ∨ b = g) w w.drew := (Kp.refl _ w).drew
  have hlt2 := h2.lt
  have hgl2 := hb2.lt
  generalize w.drew = w2 at *
  by_cases hcl : byteAt l s.i = 91 ∧ s.i + 1 < l.length ∧ byteAt l (s.i + 1) = 58
  · obtain ⟨q1, q2, q3⟩ := hcl
    have e91 : (((byteAt l s.i).toNat : Int) == 91) = true := by rw [q1]; rfl
    have e58 : (((byteAt l (s.i + 1)).toNat : Int) == 58) = true := by rw [q3]; rfl
    have eln : decide ((s.i : Int) + 1 < (l.length : Int)) = true := decide_eq_true (by omega)
    have hix : ((s.i : Int) + 1).toNat = s.i + 1 := by omega
    have hir : item3 l s set = if clEnd l l.length (s.i + 2) + 1 ≥ l.length then ((0, false), set, s.fail 2) else
        if (in3 ((l.drop (s.i + 2)).take (clEnd l l.length (s.i + 2) - (s.i + 2))) 0).2 then ((0, false), clPut ((l.drop (s.i + 2)).take (clEnd l l.length (s.i + 2) - (s.i + 2))) set, { s with i := clEnd l l.length (s.i + 2) + 2 }) else ((0, false), set, s.fail 2) := by
      unfold item3
      rw [if_pos (by rw [q1, q3]; simp; omega)]
    replace hir : Hide _ := ⟨hir⟩
    refine Wp.draw [0, 1, 3, 7, 15, 31, 63, 127, 7, 263, 775, 1799, 3847, 8191, 16383, 32767, 65535, 131071, 262143, 524287, 65535, 1114111, 3211263, 7405567, 15794175, 33554431, 67108863, 134217727] [] (.op 0 false false [] <| .op 1 false false [] <| .op 2 false false [] <| .op 3 false false [] <| .op 4 false false [] <| .op 5 false false [] <| .op 6 false false [] <| .op 7 false false [] <| .op 8 false false [] <| .op 9 false false [] <| .op 10 false false [] <| .op 11 false false [] <| .op 12 false false [] <| .op 13 false false [] <| .op 14 false false [] <| .op 15 false false [] <| .op 16 false false [] <| .op 17 false false [] <| .op 18 false false [] <| .op 19 false false [] <| .op 20 false false [] <| .op 21 false false [] <| .op 22 false false [] <| .op 23 false false [] <| .op 24 false false [] <| .op 25 false false [] <| .op 26 false false [] <| .op 27 false false [] <| .nil) mixed (by kernel_rfl) ?_
    simp -dsimp (maxSteps := 2000000) (disch := first | omega | (simp only [qZ] <;> omega) | fail) only [push_cast, ↓qP, ↓reduceIte, Nat.reduceEqDiff, Nat.reduceAdd, Nat.reduceMul, Nat.reduceSub, Nat.reduceLeDiff, Int.reduceToNat, reduceCtorEq, h2.rdc, e91, e58, eln, hix]
    refine ⟨by omega, ?_⟩
    refine Sm.out ?_
    repeat (first | refine qS ?_ | refine qB ?_ | refine qT rfl ?_ | refine qF rfl ?_ | ((first | refine qR rfl ?_ | refine qK ?_ | refine qE ?_ | refine qW ?_ | refine qM ?_); try simp -dsimp (maxSteps := 2000000) (disch := first | omega | (simp only [qZ] <;> omega) | fail) only [push_cast, ↓qP, ↓reduceIte, Nat.reduceEqDiff, Nat.reduceAdd, Nat.reduceMul, Nat.reduceSub, Nat.reduceLeDiff, Int.reduceToNat, reduceCtorEq, h2.rdc]) | (refine qA ?_ ?_; (first | omega | (simp only [qL]; omega) | (simp only [qD] at *; omega))))
    have h3 := h2.drew
    have hb3 := hb2.drew
    have k3 := k2.drew
    have hlt3 := h3.lt
    have hgl3 := hb3.lt
    generalize w2.drew = w3 at *
    refine Wp.loop (α := Nat) (fun k F w4 => ∃ e : Nat, F 0 = .pointer (some ⟨a, 0, none⟩) ∧ F 1 = .slice (some ⟨g, 0, none⟩) 256 256 ∧ F 7 = .int .i64 e ∧ w3 = w4 ∧ Hide (e = s.i + 2 + k) ∧ e ≤ l.length + 1 ∧ k ≤ l.length ∧ Hide (clEnd l (l.length - k) e = clEnd l l.length (s.i + 2))) (fun k => l.length - k) 0
      ⟨s.i + 2, ?_, ?_, ?_, rfl, ⟨rfl⟩, by omega, by omega, ⟨rfl⟩⟩ ?_
    · simp -dsimp (maxSteps := 2000000) (disch := first | omega | (simp only [qZ] <;> omega) | fail) only [push_cast, ↓qP, ↓reduceIte, Nat.reduceEqDiff, Nat.reduceAdd, Nat.reduceMul, Nat.reduceSub, Nat.reduceLeDiff, Int.reduceToNat, reduceCtorEq]
    · simp -dsimp (maxSteps := 2000000) (disch := first | omega | (simp only [qZ] <;> omega) | fail) only [push_cast, ↓qP, ↓reduceIte, Nat.reduceEqDiff, Nat.reduceAdd, Nat.reduceMul, Nat.reduceSub, Nat.reduceLeDiff, Int.reduceToNat, reduceCtorEq]
    · simp -dsimp (maxSteps := 2000000) (disch := first | omega | (simp only [qZ] <;> omega) | fail) only [push_cast, ↓qP, ↓reduceIte, Nat.reduceEqDiff, Nat.reduceAdd, Nat.reduceMul, Nat.reduceSub, Nat.reduceLeDiff, Int.reduceToNat, reduceCtorEq]
      congr 1
    rintro k F _ ⟨e, f0, f1, f7, rfl, hek, he, hk, hcle⟩
    have hix1 : ((e : Int) + 1).toNat = e + 1 := by omega
    by_cases hgo : e + 1 < l.length ∧ ¬ (byteAt l e = 58 ∧ byteAt l (e + 1) = 93)
    · replace hgo : Hide _ := ⟨hgo⟩
      have hel := hgo.out.1
      repeat' (first | refine qS ?_ | refine qB ?_ | refine qT rfl ?_ | refine qF rfl ?_ | ((first | refine qR rfl ?_ | refine qK ?_ | refine qE ?_ | refine qW ?_ | refine qM ?_); try simp -dsimp (maxSteps := 2000000) (disch := first | omega | (simp only [qZ] <;> omega) | fail) only [push_cast, ↓qP, ↓reduceIte, Nat.reduceEqDiff, Nat.reduceAdd, Nat.reduceMul, Nat.reduceSub, Nat.reduceLeDiff, Int.reduceToNat, reduceCtorEq, f0, f1, f7, h3.rdc, hix1]) | ((refine gsel.mk (fun hg => ?_) (fun hg => ?_)) <;> try simp -dsimp (maxSteps := 2000000) (disch := first | omega | (simp only [qZ] <;> omega) | fail) only [push_cast, ↓qP, ↓reduceIte, Nat.reduceEqDiff, Nat.reduceAdd, Nat.reduceMul, Nat.reduceSub, Nat.reduceLeDiff, Int.reduceToNat, reduceCtorEq, f0, f1, f7, h3.rdc, hix1, *]) | refine Wp.cond rfl (fun hg => ?_) (fun hg => ?_) | (refine qA ?_ ?_; (first | omega | (simp only [qL]; omega) | (simp only [qD] at *; omega))))
      all_goals first
        | (refine Again.mk (k + 1) ⟨e + 1, ?_, ?_, ?_, rfl, ⟨by have := hek.out; omega⟩, by omega, by have := hek.out; omega, ⟨?_⟩⟩ (by have := hek.out; omega)
           · simp -dsimp (maxSteps := 2000000) (disch := first | omega | (simp only [qZ] <;> omega) | fail) only [push_cast, ↓qP, ↓reduceIte, Nat.reduceEqDiff, Nat.reduceAdd, Nat.reduceMul, Nat.reduceSub, Nat.reduceLeDiff, Int.reduceToNat, reduceCtorEq, f0]
           · simp -dsimp (maxSteps := 2000000) (disch := first | omega | (simp only [qZ] <;> omega) | fail) only [push_cast, ↓qP, ↓reduceIte, Nat.reduceEqDiff, Nat.reduceAdd, Nat.reduceMul, Nat.reduceSub, Nat.reduceLeDiff, Int.reduceToNat, reduceCtorEq, f1]
           · simp -dsimp (maxSteps := 2000000) (disch := first | omega | (simp only [qZ] <;> omega) | fail) only [push_cast, ↓qP, ↓reduceIte, Nat.reduceEqDiff, Nat.reduceAdd, Nat.reduceMul, Nat.reduceSub, Nat.reduceLeDiff, Int.reduceToNat, reduceCtorEq, f7]
           · rw [← hcle.out, show l.length - k = (l.length - (k + 1)) + 1 by have := hek.out; omega]
             have hh := hgo.out
             simp only [clEnd]
             rw [if_pos]
             simp only [Bool.and_eq_true, decide_eq_true_eq, Bool.not_eq_true', Bool.and_eq_false_iff]
             refine ⟨hh.1, ?_⟩
             by_cases h9 : byteAt l e = 58
             · right; simpa using fun h10 => hh.2 ⟨h9, h10⟩
             · left; simpa using h9)
        | (exfalso; have hh := hgo.out; clear hgo; simp only [h58, h93, beq_iff_eq, decide_eq_true_eq, decide_eq_false_iff_not, Bool.not_true, Bool.not_false, Bool.not_eq_false', Bool.not_eq_true'] at *; first | omega | exact hh.2 ⟨by assumption, by assumption⟩)
        | trace_state
    · have hce : clEnd l l.length (s.i + 2) = e := by
        rw [← hcle.out]
        rcases Nat.eq_zero_or_pos (l.length - k) with h9 | h9
        · rw [h9]; rfl
        · rw [show l.length - k = (l.length - k - 1) + 1 by omega]
          simp only [clEnd]
          rw [if_neg]
          simp only [Bool.and_eq_true, decide_eq_true_eq, Bool.not_eq_true', Bool.and_eq_false_iff, beq_eq_false_iff_ne]
          rintro ⟨h10, h11⟩
          exact hgo ⟨h10, fun ⟨h12, h13⟩ => by rcases h11 with h11 | h11 <;> contradiction⟩
      have hir' := hir.out
      rw [hce] at hir'
      clear hir hcle hce
      replace hgo : Hide _ := ⟨hgo⟩
      rcases Nat.lt_or_ge (e + 1) l.length with h9 | h9
      · have h9' : decide ((e : Int) + 1 ≥ (l.length : Int)) = false := decide_eq_false (by omega)
        rw [if_neg (by omega)] at hir'
        replace hir' : Hide _ := ⟨hir'⟩
        repeat' (first | refine qS ?_ | refine qB ?_ | refine qT rfl ?_ | refine qF rfl ?_ | ((first | refine qR rfl ?_ | refine qK ?_ | refine qE ?_ | refine qW ?_ | refine qM ?_); try simp -dsimp (maxSteps := 2000000) (disch := first | omega | (simp only [qZ] <;> omega) | fail) only [push_cast, ↓qP, ↓reduceIte, Nat.reduceEqDiff, Nat.reduceAdd, Nat.reduceMul, Nat.reduceSub, Nat.reduceLeDiff, Int.reduceToNat, reduceCtorEq, f0, f1, f7, h3.rdc, hix1, h9']) | ((refine gsel.mk (fun hg => ?_) (fun hg => ?_)) <;> try simp -dsimp (maxSteps := 2000000) (disch := first | omega | (simp only [qZ] <;> omega) | fail) only [push_cast, ↓qP, ↓reduceIte, Nat.reduceEqDiff, Nat.reduceAdd, Nat.reduceMul, Nat.reduceSub, Nat.reduceLeDiff, Int.reduceToNat, reduceCtorEq, f0, f1, f7, h3.rdc, hix1, h9', *]) | refine Wp.cond rfl (fun hg => ?_) (fun hg => ?_) | (refine qA ?_ ?_; (first | omega | (simp only [qL]; omega) | (simp only [qD] at *; omega))))
        all_goals first
          | (exfalso; have hh := hgo.out; clear hgo; simp only [h58, h93, beq_iff_eq, decide_eq_true_eq, decide_eq_false_iff_not, Bool.not_true, Bool.not_false, Bool.not_eq_false', Bool.not_eq_true', beq_eq_false_iff_ne] at *; first | omega | exact hh ⟨by omega, fun ⟨h12, h13⟩ => by contradiction⟩)
          | skip
        have hix2 : ((s.i : Int) + 2).toNat = s.i + 2 := by omega
        have hek' := hek.out
        refine Wp.draw [0, 1, 3, 7, 0, 16, 48, 112, 240, 0, 1023, 2047] [] (.op 0 false false [] <| .op 1 false false [] <| .op 2 false false [] <| .op 3 false false [] <| .op 4 false false [] <| .op 5 false false [] <| .op 6 false false [] <| .op 7 false false [] <| .op 8 false false [] <| .op 9 false false [] <| .op 10 false false [] <| .op 11 false false [] <| .nil) mixed (by kernel_rfl) ?_
        simp -dsimp (maxSteps := 2000000) (disch := first | omega | (simp only [qZ] <;> omega) | fail) only [push_cast, ↓qP, ↓reduceIte, Nat.reduceEqDiff, Nat.reduceAdd, Nat.reduceMul, Nat.reduceSub, Nat.reduceLeDiff, Int.reduceToNat, reduceCtorEq, h3.rdc, f0, f1, f7, hix2]
        refine ⟨by omega, ?_⟩
        generalize hn : (l.drop (s.i + 2)).take (e - (s.i + 2)) = n at *
        refine Sm.out ?_
        repeat (first | refine qS ?_ | refine qB ?_ | refine qT rfl ?_ | refine qF rfl ?_ | ((first | refine qR rfl ?_ | refine qK ?_ | refine qE ?_ | refine qW ?_ | refine qM ?_); try simp -dsimp (maxSteps := 2000000) (disch := first | omega | (simp only [qZ] <;> omega) | fail) only [push_cast, ↓qP, ↓reduceIte, Nat.reduceEqDiff, Nat.reduceAdd, Nat.reduceMul, Nat.reduceSub, Nat.reduceLeDiff, Int.reduceToNat, reduceCtorEq, f0, f1, f7, hn]) | (refine qA ?_ ?_; (first | omega | (simp only [qL]; omega) | (simp only [qD] at *; omega))))
        have hkp0 : Kp (fun b => b = a ∨ b = g) w w3.drew := k3.drew
        refine Wp.loop (α := Nat) (fun k F w4 => F 0 = .pointer (some ⟨a, 0, none⟩) ∧ F 1 = .slice (some ⟨g, 0, none⟩) 256 256 ∧ F 7 = .int .i64 e ∧ F 8 = .string (B n) ∧ F 9 = .int .i64 k ∧ k ≤ 256 ∧ At3 w4 a l s ∧ Blk w4 g 4 (bools (clK n set k)) ∧ Kp (fun b => b = a ∨ b = g) w w4 ∧ Hide (0 < k → (in3 n 0).2 = true)) (fun k => 256 - k) 0
          ⟨?_, ?_, ?_, ?_, ?_, by omega, h3.drew, by rw [clK_zero]; exact hb3.drew, hkp0, ⟨by omega⟩⟩ ?_
        · simp -dsimp (maxSteps := 2000000) (disch := first | omega | (simp only [qZ] <;> omega) | fail) only [push_cast, ↓qP, ↓reduceIte, Nat.reduceEqDiff, Nat.reduceAdd, Nat.reduceMul, Nat.reduceSub, Nat.reduceLeDiff, Int.reduceToNat, reduceCtorEq, f0]
        · simp -dsimp (maxSteps := 2000000) (disch := first | omega | (simp only [qZ] <;> omega) | fail) only [push_cast, ↓qP, ↓reduceIte, Nat.reduceEqDiff, Nat.reduceAdd, Nat.reduceMul, Nat.reduceSub, Nat.reduceLeDiff, Int.reduceToNat, reduceCtorEq, f1]
        · simp -dsimp (maxSteps := 2000000) (disch := first | omega | (simp only [qZ] <;> omega) | fail) only [push_cast, ↓qP, ↓reduceIte, Nat.reduceEqDiff, Nat.reduceAdd, Nat.reduceMul, Nat.reduceSub, Nat.reduceLeDiff, Int.reduceToNat, reduceCtorEq, f7]
        · simp -dsimp (maxSteps := 2000000) (disch := first | omega | (simp only [qZ] <;> omega) | fail) only [push_cast, ↓qP, ↓reduceIte, Nat.reduceEqDiff, Nat.reduceAdd, Nat.reduceMul, Nat.reduceSub, Nat.reduceLeDiff, Int.reduceToNat, reduceCtorEq]
        · simp -dsimp (maxSteps := 2000000) (disch := first | omega | (simp only [qZ] <;> omega) | fail) only [push_cast, ↓qP, ↓reduceIte, Nat.reduceEqDiff, Nat.reduceAdd, Nat.reduceMul, Nat.reduceSub, Nat.reduceLeDiff, Int.reduceToNat, reduceCtorEq]
        rintro k F w4 ⟨f0, f1, f7, f8, f9, hk, h4, hb4, k4, hin⟩
        have hlt4 := h4.lt
        have hgl4 := hb4.lt
        rcases Nat.lt_or_ge k 256 with h10 | h10
        · have c1 : decide ((k : Int) < 256) = true := decide_eq_true (by omega)
          repeat (first | refine qS ?_ | refine qB ?_ | refine qT rfl ?_ | refine qF rfl ?_ | ((first | refine qR rfl ?_ | refine qK ?_ | refine qE ?_ | refine qW ?_ | refine qM ?_); try simp -dsimp (maxSteps := 2000000) (disch := first | omega | (simp only [qZ] <;> omega) | fail) only [push_cast, ↓qP, ↓reduceIte, Nat.reduceEqDiff, Nat.reduceAdd, Nat.reduceMul, Nat.reduceSub, Nat.reduceLeDiff, Int.reduceToNat, reduceCtorEq, f0, f1, f7, f8, f9, c1]) | (refine qA ?_ ?_; (first | omega | (simp only [qL]; omega) | (simp only [qD] at *; omega))))
          refine CallV.of isCall_108 (in3_any n k w4) ?_
          rintro _ _ ⟨rfl, rfl⟩
          have hsn := in3_snd n k 0
          rcases Bool.eq_false_or_eq_true (in3 n k).2 with h11 | h11
          · rcases Bool.eq_false_or_eq_true (in3 n k).1 with h12 | h12
            · have hcell : rdc w4 g k = some (.bool ((clK n set k)[k]'(by rw [clK_len]; omega))) := by
                rw [hb4.rdc, bools, List.getElem?_map, List.getElem?_eq_getElem (by rw [clK_len]; omega)]; rfl
              refine Sm.out ?_
              repeat (first | refine qS ?_ | refine qB ?_ | refine qT rfl ?_ | refine qF rfl ?_ | ((first | refine qR rfl ?_ | refine qK ?_ | refine qE ?_ | refine qW ?_ | refine qM ?_); try simp -dsimp (maxSteps := 2000000) (disch := first | omega | (simp only [qZ] <;> omega) | fail) only [push_cast, ↓qP, ↓reduceIte, Nat.reduceEqDiff, Nat.reduceAdd, Nat.reduceMul, Nat.reduceSub, Nat.reduceLeDiff, Int.reduceToNat, reduceCtorEq, f0, f1, f7, f8, f9, h11, h12, hcell, hb4.fz]) | (refine qA ?_ ?_; (first | omega | (simp only [qL]; omega) | (simp only [qD] at *; omega))))
              refine Again.mk (k + 1) ⟨?_, ?_, ?_, ?_, ?_, by omega, h4.far (p := ⟨g, k, none⟩) hne _, ?_, k4.setCell (fun _ => .inr rfl) _, ⟨fun _ => by rw [← hsn]; exact h11⟩⟩ (by omega)
              · simp -dsimp (maxSteps := 2000000) (disch := first | omega | (simp only [qZ] <;> omega) | fail) only [push_cast, ↓qP, ↓reduceIte, Nat.reduceEqDiff, Nat.reduceAdd, Nat.reduceMul, Nat.reduceSub, Nat.reduceLeDiff, Int.reduceToNat, reduceCtorEq, f0]
              · simp -dsimp (maxSteps := 2000000) (disch := first | omega | (simp only [qZ] <;> omega) | fail) only [push_cast, ↓qP, ↓reduceIte, Nat.reduceEqDiff, Nat.reduceAdd, Nat.reduceMul, Nat.reduceSub, Nat.reduceLeDiff, Int.reduceToNat, reduceCtorEq, f1]
              · simp -dsimp (maxSteps := 2000000) (disch := first | omega | (simp only [qZ] <;> omega) | fail) only [push_cast, ↓qP, ↓reduceIte, Nat.reduceEqDiff, Nat.reduceAdd, Nat.reduceMul, Nat.reduceSub, Nat.reduceLeDiff, Int.reduceToNat, reduceCtorEq, f7]
              · simp -dsimp (maxSteps := 2000000) (disch := first | omega | (simp only [qZ] <;> omega) | fail) only [push_cast, ↓qP, ↓reduceIte, Nat.reduceEqDiff, Nat.reduceAdd, Nat.reduceMul, Nat.reduceSub, Nat.reduceLeDiff, Int.reduceToNat, reduceCtorEq, f8]
              · simp -dsimp (maxSteps := 2000000) (disch := first | omega | (simp only [qZ] <;> omega) | fail) only [push_cast, ↓qP, ↓reduceIte, Nat.reduceEqDiff, Nat.reduceAdd, Nat.reduceMul, Nat.reduceSub, Nat.reduceLeDiff, Int.reduceToNat, reduceCtorEq]
              · rw [clK_succ n set k (by omega), if_pos h12]
                have := hb4.set k (.bool true)
                rwa [bools, ← List.map_set] at this
            · refine Sm.out ?_
              repeat (first | refine qS ?_ | refine qB ?_ | refine qT rfl ?_ | refine qF rfl ?_ | ((first | refine qR rfl ?_ | refine qK ?_ | refine qE ?_ | refine qW ?_ | refine qM ?_); try simp -dsimp (maxSteps := 2000000) (disch := first | omega | (simp only [qZ] <;> omega) | fail) only [push_cast, ↓qP, ↓reduceIte, Nat.reduceEqDiff, Nat.reduceAdd, Nat.reduceMul, Nat.reduceSub, Nat.reduceLeDiff, Int.reduceToNat, reduceCtorEq, f0, f1, f7, f8, f9, h11, h12]) | (refine qA ?_ ?_; (first | omega | (simp only [qL]; omega) | (simp only [qD] at *; omega))))
              refine Again.mk (k + 1) ⟨?_, ?_, ?_, ?_, ?_, by omega, h4, ?_, k4, ⟨fun _ => by rw [← hsn]; exact h11⟩⟩ (by omega)
              · simp -dsimp (maxSteps := 2000000) (disch := first | omega | (simp only [qZ] <;> omega) | fail) only [push_cast, ↓qP, ↓reduceIte, Nat.reduceEqDiff, Nat.reduceAdd, Nat.reduceMul, Nat.reduceSub, Nat.reduceLeDiff, Int.reduceToNat, reduceCtorEq, f0]
              · simp -dsimp (maxSteps := 2000000) (disch := first | omega | (simp only [qZ] <;> omega) | fail) only [push_cast, ↓qP, ↓reduceIte, Nat.reduceEqDiff, Nat.reduceAdd, Nat.reduceMul, Nat.reduceSub, Nat.reduceLeDiff, Int.reduceToNat, reduceCtorEq, f1]
              · simp -dsimp (maxSteps := 2000000) (disch := first | omega | (simp only [qZ] <;> omega) | fail) only [push_cast, ↓qP, ↓reduceIte, Nat.reduceEqDiff, Nat.reduceAdd, Nat.reduceMul, Nat.reduceSub, Nat.reduceLeDiff, Int.reduceToNat, reduceCtorEq, f7]
              · simp -dsimp (maxSteps := 2000000) (disch := first | omega | (simp only [qZ] <;> omega) | fail) only [push_cast, ↓qP, ↓reduceIte, Nat.reduceEqDiff, Nat.reduceAdd, Nat.reduceMul, Nat.reduceSub, Nat.reduceLeDiff, Int.reduceToNat, reduceCtorEq, f8]
              · simp -dsimp (maxSteps := 2000000) (disch := first | omega | (simp only [qZ] <;> omega) | fail) only [push_cast, ↓qP, ↓reduceIte, Nat.reduceEqDiff, Nat.reduceAdd, Nat.reduceMul, Nat.reduceSub, Nat.reduceLeDiff, Int.reduceToNat, reduceCtorEq]
              · rw [clK_succ n set k (by omega), if_neg (by simp [h12])]; exact hb4
          · refine Sm.out ?_
            repeat (first | refine qS ?_ | refine qB ?_ | refine qT rfl ?_ | refine qF rfl ?_ | ((first | refine qR rfl ?_ | refine qK ?_ | refine qE ?_ | refine qW ?_ | refine qM ?_); try simp -dsimp (maxSteps := 2000000) (disch := first | omega | (simp only [qZ] <;> omega) | fail) only [push_cast, ↓qP, ↓reduceIte, Nat.reduceEqDiff, Nat.reduceAdd, Nat.reduceMul, Nat.reduceSub, Nat.reduceLeDiff, Int.reduceToNat, reduceCtorEq, f0, f1, f7, f8, f9, h11]) | (refine qA ?_ ?_; (first | omega | (simp only [qL]; omega) | (simp only [qD] at *; omega))))
            refine CallV.of isCall_50 (fail3 h4 2) ?_
            rintro _ w5 ⟨rfl, h5, k5⟩
            refine Sm.out ?_
            repeat (first | refine qS ?_ | refine qB ?_ | refine qT rfl ?_ | refine qF rfl ?_ | ((first | refine qR rfl ?_ | refine qK ?_ | refine qE ?_ | refine qW ?_ | refine qM ?_); try simp -dsimp (maxSteps := 2000000) (disch := first | omega | (simp only [qZ] <;> omega) | fail) only [push_cast, ↓qP, ↓reduceIte, Nat.reduceEqDiff, Nat.reduceAdd, Nat.reduceMul, Nat.reduceSub, Nat.reduceLeDiff, Int.reduceToNat, reduceCtorEq]) | (refine qA ?_ ?_; (first | omega | (simp only [qL]; omega) | (simp only [qD] at *; omega))))
            have hk0 : k = 0 := by
              rcases Nat.eq_zero_or_pos k with h13 | h13
              · exact h13
              · have := hin.out h13; rw [← hsn, h11] at this; cases this
            subst hk0
            rw [clK_zero] at hb4
            have hr := hir'.out
            rw [if_neg (by rw [← hsn, h11]; simp)] at hr
            rw [hr]
            exact Ret.mk ⟨rfl, h5, k5.Blk hb4 (fun e => hne e.symm), k4.trans (k5.mono (fun k _ e => .inl e))⟩
        · have c1 : decide ((k : Int) < 256) = false := decide_eq_false (by omega)
          obtain rfl : k = 256 := by omega
          have hin' := hin.out (by omega)
          have hr := hir'.out
          rw [if_pos hin'] at hr
          rw [← hset, clK_all] at hb4
          repeat (first | refine qS ?_ | refine qB ?_ | refine qT rfl ?_ | refine qF rfl ?_ | ((first | refine qR rfl ?_ | refine qK ?_ | refine qE ?_ | refine qW ?_ | refine qM ?_); try simp -dsimp (maxSteps := 2000000) (disch := first | omega | (simp only [qZ] <;> omega) | fail) only [push_cast, ↓qP, ↓reduceIte, Nat.reduceEqDiff, Nat.reduceAdd, Nat.reduceMul, Nat.reduceSub, Nat.reduceLeDiff, Int.reduceToNat, reduceCtorEq, f0, f1, f7, f8, f9, c1, h4.rdc, h4.fz]) | (refine qA ?_ ?_; (first | omega | (simp only [qL]; omega) | (simp only [qD] at *; omega))))
          rw [hr]
          exact Ret.mk ⟨rfl, h4.set 1 (.int .i64 ((e : Int) + 2)), hb4.far (p := ⟨a, 1, none⟩) hne.symm _, k4.setCell (fun _ => .inl rfl) _⟩
      · have h9' : decide ((e : Int) + 1 ≥ (l.length : Int)) = true := decide_eq_true (by omega)
        rw [if_pos (by omega)] at hir'
        have h9'' : decide ((e : Int) + 1 < (l.length : Int)) = false := decide_eq_false (by omega)
        repeat (first | refine qS ?_ | refine qB ?_ | refine qT rfl ?_ | refine qF rfl ?_ | ((first | refine qR rfl ?_ | refine qK ?_ | refine qE ?_ | refine qW ?_ | refine qM ?_); try simp -dsimp (maxSteps := 2000000) (disch := first | omega | (simp only [qZ] <;> omega) | fail) only [push_cast, ↓qP, ↓reduceIte, Nat.reduceEqDiff, Nat.reduceAdd, Nat.reduceMul, Nat.reduceSub, Nat.reduceLeDiff, Int.reduceToNat, reduceCtorEq, f0, f1, f7, h3.rdc, hix1, h9', h9'']) | (refine qA ?_ ?_; (first | omega | (simp only [qL]; omega) | (simp only [qD] at *; omega))))
        refine CallV.of isCall_50 (fail3 h3 2) ?_
        rintro _ w5 ⟨rfl, h5, k5⟩
        refine Sm.out ?_
        repeat (first | refine qS ?_ | refine qB ?_ | refine qT rfl ?_ | refine qF rfl ?_ | ((first | refine qR rfl ?_ | refine qK ?_ | refine qE ?_ | refine qW ?_ | refine qM ?_); try simp -dsimp (maxSteps := 2000000) (disch := first | omega | (simp only [qZ] <;> omega) | fail) only [push_cast, ↓qP, ↓reduceIte, Nat.reduceEqDiff, Nat.reduceAdd, Nat.reduceMul, Nat.reduceSub, Nat.reduceLeDiff, Int.reduceToNat, reduceCtorEq]) | (refine qA ?_ ?_; (first | omega | (simp only [qL]; omega) | (simp only [qD] at *; omega))))
        rw [hir']
        exact Ret.mk ⟨rfl, h5, k5.Blk hb3 (fun e => hne e.symm), k3.trans (k5.mono (fun k _ e => .inl e))⟩
  · have hir : item3 l s set = if byteAt l s.i == 92 then (((escape3 l s).1, true), set, (escape3 l s).2) else ((byteAt l s.i, true), set, s.on) := by
      unfold item3
      rw [if_neg]
      simp only [Bool.and_eq_true, beq_iff_eq, decide_eq_true_eq]
      exact fun ⟨⟨q1, q2⟩, q3⟩ => hcl ⟨q1, q2, q3⟩
    have hix : ((s.i : Int) + 1).toNat = s.i + 1 := by omega
    by_cases c92 : byteAt l s.i = 92
    · have e1 : (((byteAt l s.i).toNat : Int) == 92) = true := by rw [c92]; rfl
      have e2 : (((byteAt l s.i).toNat : Int) == 91) = false := by rw [c92]; rfl
      rw [if_pos (by rw [c92]; rfl)] at hir
      rw [hir]
      clear hcl hir
      refine Wp.draw [0, 1, 3, 7, 15, 31, 63, 127, 7, 263, 775, 1799, 3847, 8191, 16383, 32767, 65535, 131071, 262143, 524287, 65535, 1114111, 3211263, 7405567, 15794175, 33554431, 67108863, 134217727] [] (.op 0 false false [] <| .op 1 false false [] <| .op 2 false false [] <| .op 3 false false [] <| .op 4 false false [] <| .op 5 false false [] <| .op 6 false false [] <| .op 7 false false [] <| .op 8 false false [] <| .op 9 false false [] <| .op 10 false false [] <| .op 11 false false [] <| .op 12 false false [] <| .op 13 false false [] <| .op 14 false false [] <| .op 15 false false [] <| .op 16 false false [] <| .op 17 false false [] <| .op 18 false false [] <| .op 19 false false [] <| .op 20 false false [] <| .op 21 false false [] <| .op 22 false false [] <| .op 23 false false [] <| .op 24 false false [] <| .op 25 false false [] <| .op 26 false false [] <| .op 27 false false [] <| .nil) mixed (by kernel_rfl) ?_
      simp -dsimp (maxSteps := 2000000) (disch := first | omega | (simp only [qZ] <;> omega) | fail) only [push_cast, ↓qP, ↓reduceIte, Nat.reduceEqDiff, Nat.reduceAdd, Nat.reduceMul, Nat.reduceSub, Nat.reduceLeDiff, Int.reduceToNat, reduceCtorEq, h2.rdc, e2]
      refine Sm.out ?_
      repeat (first | refine qS ?_ | refine qB ?_ | refine qT rfl ?_ | refine qF rfl ?_ | ((first | refine qR rfl ?_ | refine qK ?_ | refine qE ?_ | refine qW ?_ | refine qM ?_); try simp -dsimp (maxSteps := 2000000) (disch := first | omega | (simp only [qZ] <;> omega) | fail) only [push_cast, ↓qP, ↓reduceIte, Nat.reduceEqDiff, Nat.reduceAdd, Nat.reduceMul, Nat.reduceSub, Nat.reduceLeDiff, Int.reduceToNat, reduceCtorEq, e1]) | (refine qA ?_ ?_; (first | omega | (simp only [qL]; omega) | (simp only [qD] at *; omega))))
      refine CallV.of isCall_95 (escape3_any h2.drew hl (by omega)) ?_
      rintro _ w5 ⟨rfl, h5, k5⟩
      refine Sm.out ?_
      repeat (first | refine qS ?_ | refine qB ?_ | refine qT rfl ?_ | refine qF rfl ?_ | ((first | refine qR rfl ?_ | refine qK ?_ | refine qE ?_ | refine qW ?_ | refine qM ?_); try simp -dsimp (maxSteps := 2000000) (disch := first | omega | (simp only [qZ] <;> omega) | fail) only [push_cast, ↓qP, ↓reduceIte, Nat.reduceEqDiff, Nat.reduceAdd, Nat.reduceMul, Nat.reduceSub, Nat.reduceLeDiff, Int.reduceToNat, reduceCtorEq]) | (refine qA ?_ ?_; (first | omega | (simp only [qL]; omega) | (simp only [qD] at *; omega))))
      refine Ret.mk ⟨rfl, h5, k5.Blk hb2.drew (fun e => hne e.symm), k2.drew.trans (k5.mono (fun k _ e => .inl e))⟩
    · have e1 : (((byteAt l s.i).toNat : Int) == 92) = false := by rw [show (92 : Int) = ((92 : UInt8).toNat : Int) from rfl, u8_eq']; simpa using c92
      rw [if_neg (by simpa using c92)] at hir
      rw [hir]
      clear hir
      replace hcl : Hide _ := ⟨hcl⟩
      refine Wp.draw [0, 1, 3, 7, 15, 31, 63, 127, 7, 263, 775, 1799, 3847, 8191, 16383, 32767, 65535, 131071, 262143, 524287, 65535, 1114111, 3211263, 7405567, 15794175, 33554431, 67108863, 134217727] [] (.op 0 false false [] <| .op 1 false false [] <| .op 2 false false [] <| .op 3 false false [] <| .op 4 false false [] <| .op 5 false false [] <| .op 6 false false [] <| .op 7 false false [] <| .op 8 false false [] <| .op 9 false false [] <| .op 10 false false [] <| .op 11 false false [] <| .op 12 false false [] <| .op 13 false false [] <| .op 14 false false [] <| .op 15 false false [] <| .op 16 false false [] <| .op 17 false false [] <| .op 18 false false [] <| .op 19 false false [] <| .op 20 false false [] <| .op 21 false false [] <| .op 22 false false [] <| .op 23 false false [] <| .op 24 false false [] <| .op 25 false false [] <| .op 26 false false [] <| .op 27 false false [] <| .nil) mixed (by kernel_rfl) ?_
      simp -dsimp (maxSteps := 2000000) (disch := first | omega | (simp only [qZ] <;> omega) | fail) only [push_cast, ↓qP, ↓reduceIte, Nat.reduceEqDiff, Nat.reduceAdd, Nat.reduceMul, Nat.reduceSub, Nat.reduceLeDiff, Int.reduceToNat, reduceCtorEq, h2.rdc, hix, e1, h2.fz]
      repeat' (first | refine qS ?_ | refine qB ?_ | refine qT rfl ?_ | refine qF rfl ?_ | ((first | refine qR rfl ?_ | refine qK ?_ | refine qE ?_ | refine qW ?_ | refine qM ?_); try simp -dsimp (maxSteps := 2000000) (disch := first | omega | (simp only [qZ] <;> omega) | fail) only [push_cast, ↓qP, ↓reduceIte, Nat.reduceEqDiff, Nat.reduceAdd, Nat.reduceMul, Nat.reduceSub, Nat.reduceLeDiff, Int.reduceToNat, reduceCtorEq, h2.rdc, hix, e1, h2.fz]) | ((refine gsel.mk (fun hg => ?_) (fun hg => ?_)) <;> try simp -dsimp (maxSteps := 2000000) (disch := first | omega | (simp only [qZ] <;> omega) | fail) only [push_cast, ↓qP, ↓reduceIte, Nat.reduceEqDiff, Nat.reduceAdd, Nat.reduceMul, Nat.reduceSub, Nat.reduceLeDiff, Int.reduceToNat, reduceCtorEq, h2.rdc, hix, e1, h2.fz, *]) | refine Wp.cond rfl (fun hg => ?_) (fun hg => ?_) | (refine qA ?_ ?_; (first | omega | (simp only [qL]; omega) | (simp only [qD] at *; omega))))
      all_goals first
        | exact Ret.mk ⟨rfl, h2.drew.set 1 (.int .i64 ((s.i : Int) + 1)), hb2.drew.far (p := ⟨a, 1, none⟩) hne.symm _, k2.drew.setCell (fun _ => .inl rfl) _⟩
        | (exfalso; have hh := hcl.out; clear hcl; simp only [h91, h58, beq_iff_eq, decide_eq_true_eq, decide_eq_false_iff_not] at *; exact hh ⟨by assumption, by omega, by assumption⟩)
        | trace_state
end
end Go.Proofs.Ytddichibegppjaa
