/- Split by blanks, and by a byte. -/
import Derived.Test.YtddichibegppjaaF2
import Derived.Test.YtddichibegppjaaP1
set_option linter.unusedSimpArgs false
set_option linter.unusedVariables false
attribute [local irreducible] Go.VC.OpV Go.VC.CallV Go.VC.Wp
namespace Go.Proofs.Ytddichibegppjaa
open Go Go.VC

theorem isbl_any (x : Nat) (w : World) : Calls Try.prog 66 #[.int .i32 x] w fun e w' => e = .returned (.bool (bp x)) ∧ w = w' := by
  refine enter (n := 13) (args := [.int .i32 (x : Int)]) Try.func66 rfl rfl rfl (by simp) ?_
  rcases Bool.eq_false_or_eq_true ((x : Int) == 32) with h1 | h1
  · repeat (first | refine Wp.seq ?_ | refine Wp.block ?_ | refine Wp.condT rfl ?_ | refine Wp.condF rfl ?_ | ((first | refine Wp.region rfl ?_ | refine Wp.skip ?_ | refine Wp.ret ?_ | refine Wp.exit ?_); simp -dsimp (maxSteps := 2000000) (disch := first | omega | ((repeat (first | rw [sz_drew] | rw [World.size_alloc] | rw [World.size_setCell] | rw [setCells_cons] | rw [setCells_nil])); first | done | omega) | fail) only [push_cast, ↓upd_at, ↓reduceIte, Nat.reduceEqDiff, Nat.reduceAdd, Nat.reduceMul, Nat.reduceSub, Nat.reduceLeDiff, Int.reduceToNat, reduceCtorEq, eq_self, beq_self_eq_true, h1]) | refine And.intro (by first | omega | (simp only [List.length_append, List.length_cons, List.length_nil]; omega)) ?_)
    have e : bp x = true := by simp [bp] at h1 ⊢; omega
    rw [e]
    exact Ret.mk ⟨rfl, rfl⟩
  rcases Bool.eq_false_or_eq_true ((x : Int) == 9) with h2 | h2
  · repeat (first | refine Wp.seq ?_ | refine Wp.block ?_ | refine Wp.condT rfl ?_ | refine Wp.condF rfl ?_ | ((first | refine Wp.region rfl ?_ | refine Wp.skip ?_ | refine Wp.ret ?_ | refine Wp.exit ?_); simp -dsimp (maxSteps := 2000000) (disch := first | omega | ((repeat (first | rw [sz_drew] | rw [World.size_alloc] | rw [World.size_setCell] | rw [setCells_cons] | rw [setCells_nil])); first | done | omega) | fail) only [push_cast, ↓upd_at, ↓reduceIte, Nat.reduceEqDiff, Nat.reduceAdd, Nat.reduceMul, Nat.reduceSub, Nat.reduceLeDiff, Int.reduceToNat, reduceCtorEq, eq_self, beq_self_eq_true, h1, h2]) | refine And.intro (by first | omega | (simp only [List.length_append, List.length_cons, List.length_nil]; omega)) ?_)
    have e : bp x = true := by simp [bp] at h2 ⊢; omega
    rw [e]
    exact Ret.mk ⟨rfl, rfl⟩
  · repeat (first | refine Wp.seq ?_ | refine Wp.block ?_ | refine Wp.condT rfl ?_ | refine Wp.condF rfl ?_ | ((first | refine Wp.region rfl ?_ | refine Wp.skip ?_ | refine Wp.ret ?_ | refine Wp.exit ?_); simp -dsimp (maxSteps := 2000000) (disch := first | omega | ((repeat (first | rw [sz_drew] | rw [World.size_alloc] | rw [World.size_setCell] | rw [setCells_cons] | rw [setCells_nil])); first | done | omega) | fail) only [push_cast, ↓upd_at, ↓reduceIte, Nat.reduceEqDiff, Nat.reduceAdd, Nat.reduceMul, Nat.reduceSub, Nat.reduceLeDiff, Int.reduceToNat, reduceCtorEq, eq_self, beq_self_eq_true, h1, h2]) | refine And.intro (by first | omega | (simp only [List.length_append, List.length_cons, List.length_nil]; omega)) ?_)
    refine Ret.mk ⟨?_, rfl⟩
    congr 2
    rw [Bool.eq_iff_iff]
    simp [bp] at h1 h2 ⊢; omega

theorem isbl_pays (w : World) : PredAtRunes Try.prog 66 #[] bp w := fun W x _ _ => by
  show Calls Try.prog 66 #[.int .i32 x] W _
  exact (isbl_any x W).mono fun e w' ⟨h1, h2⟩ => ⟨h1, 0, by subst h2; rfl⟩

theorem Kp0.of_below {B : Nat} {w w' : World} (h : RowKit.Below B w w') (hB : w.heap.size ≤ B) : Kp0 w w' := ⟨h.os, h.tape, h.output, h.size, fun k hk _ => h.block k (by omega)⟩

theorem own_low {w : World} {base e sz n cap : Nat} {A : Option Addr} {xs : List Value} (h : w.ownsRow base e sz (.slice A n cap) n xs) : Own w e sz A n cap xs :=
  ⟨h.1, h.2.imp id fun ⟨g, cp, cur, h1, _, h2⟩ => ⟨g, cp, cur, h1, Nat.zero_le _, h2⟩⟩

theorem split_blank (s : List UInt8) (b : Bool) (w : World) (hs : s.length ≤ 1000000) :
    Calls Try.prog 34 #[.string (B s), .string (B [32]), .bool b] w fun e w' => ∃ A c, e = .returned (.tuple #[.slice A (blanks s).length c, .bool true]) ∧ Own w' 9 1 A (blanks s).length c (St (blanks s)) ∧ Kp0 w w' := by
  refine enter (n := 102) (args := [.string (B s), .string (B [32]), .bool b]) Try.func34 rfl rfl rfl (by simp) ?_
  rcases Bool.eq_false_or_eq_true (s == []) with h1 | h1
  · have hs0 : s = [] := by simpa using h1
    repeat (first | refine Wp.seq ?_ | refine Wp.block ?_ | refine Wp.condT rfl ?_ | refine Wp.condF rfl ?_ | ((first | refine Wp.region rfl ?_ | refine Wp.skip ?_ | refine Wp.ret ?_ | refine Wp.exit ?_); simp -dsimp (maxSteps := 2000000) (disch := first | omega | ((repeat (first | rw [sz_drew] | rw [World.size_alloc] | rw [World.size_setCell] | rw [setCells_cons] | rw [setCells_nil])); first | done | omega) | fail) only [push_cast, ↓upd_at, ↓reduceIte, Nat.reduceEqDiff, Nat.reduceAdd, Nat.reduceMul, Nat.reduceSub, Nat.reduceLeDiff, Int.reduceToNat, reduceCtorEq, eq_self, beq_self_eq_true, h1]) | refine And.intro (by first | omega | (simp only [List.length_append, List.length_cons, List.length_nil]; omega)) ?_)
    subst hs0
    exact Ret.mk ⟨none, 0, rfl, Own.nil _ _ _, Kp.refl _ _⟩
  repeat (first | refine Wp.seq ?_ | refine Wp.block ?_ | refine Wp.condT rfl ?_ | refine Wp.condF rfl ?_ | ((first | refine Wp.region rfl ?_ | refine Wp.skip ?_ | refine Wp.ret ?_ | refine Wp.exit ?_); simp -dsimp (maxSteps := 2000000) (disch := first | omega | ((repeat (first | rw [sz_drew] | rw [World.size_alloc] | rw [World.size_setCell] | rw [setCells_cons] | rw [setCells_nil])); first | done | omega) | fail) only [push_cast, ↓upd_at, ↓reduceIte, Nat.reduceEqDiff, Nat.reduceAdd, Nat.reduceMul, Nat.reduceSub, Nat.reduceLeDiff, Int.reduceToNat, reduceCtorEq, eq_self, beq_self_eq_true, h1]) | refine And.intro (by first | omega | (simp only [List.length_append, List.length_cons, List.length_nil]; omega)) ?_)
  have hc := Try.strings_FieldsFunc_runes 66 #[] (Proofs.enters_of Try.func66 (by kernel_rfl) rfl) bp (B s) w (by rw [B_size]; omega) (isbl_pays w)
  rw [goFields_blanks, List.length_map, List.map_map] at hc
  refine CallV.of isCall_65 hc ?_
  rintro _ w' ⟨A, rfl, hA, hown, hbel⟩
  try (simp -dsimp (maxSteps := 2000000) (disch := first | omega | ((repeat (first | rw [sz_drew] | rw [World.size_alloc] | rw [World.size_setCell] | rw [setCells_cons] | rw [setCells_nil])); first | done | omega) | fail) only [push_cast, ↓upd_at, ↓reduceIte, Nat.reduceEqDiff, Nat.reduceAdd, Nat.reduceMul, Nat.reduceSub, Nat.reduceLeDiff, Int.reduceToNat, reduceCtorEq, eq_self, beq_self_eq_true])
  repeat (first | refine Wp.seq ?_ | refine Wp.block ?_ | refine Wp.condT rfl ?_ | refine Wp.condF rfl ?_ | ((first | refine Wp.region rfl ?_ | refine Wp.skip ?_ | refine Wp.ret ?_ | refine Wp.exit ?_); simp -dsimp (maxSteps := 2000000) (disch := first | omega | ((repeat (first | rw [sz_drew] | rw [World.size_alloc] | rw [World.size_setCell] | rw [setCells_cons] | rw [setCells_nil])); first | done | omega) | fail) only [push_cast, ↓upd_at, ↓reduceIte, Nat.reduceEqDiff, Nat.reduceAdd, Nat.reduceMul, Nat.reduceSub, Nat.reduceLeDiff, Int.reduceToNat, reduceCtorEq, eq_self, beq_self_eq_true]) | refine And.intro (by first | omega | (simp only [List.length_append, List.length_cons, List.length_nil]; omega)) ?_)
  exact Ret.mk ⟨_, _, rfl, own_low hown, Kp0.of_below hbel (Nat.le_refl _)⟩
end Go.Proofs.Ytddichibegppjaa
