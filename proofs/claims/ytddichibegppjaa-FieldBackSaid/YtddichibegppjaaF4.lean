/- New; awake. -/
import Derived.Test.YtddichibegppjaaF3
set_option linter.unusedSimpArgs false
set_option linter.unusedVariables false
attribute [local irreducible] Go.VC.OpV Go.VC.CallV Go.VC.Wp
namespace Go.Proofs.Ytddichibegppjaa
open Go Go.VC

/-- Split answers these fields. -/
def Splits (w : World) (l sep : List UInt8) (b : Bool) (xs : List (List UInt8)) : Prop :=
  Calls Try.prog 34 #[.string (B l), .string (B sep), .bool b] w fun e w' => ∃ A c, e = .returned (.tuple #[.slice A xs.length c, .bool true]) ∧ Own w' 9 1 A xs.length c (St xs) ∧ Kp0 w w'

theorem new_any {w : World} {l sep : List UInt8} {b : Bool} {xs : List (List UInt8)} (h : Splits w l sep b xs) :
    Calls Try.prog 37 #[.string (B l), .string (B sep), .bool b] w fun e w' => ∃ r, e = .returned (.tuple #[.pointer (some ⟨r, 0, none⟩), .bool true]) ∧ w.heap.size ≤ r ∧ Rec w' r l xs ∧ Kp0 w w' := by
  refine enter (n := 23) (args := [.string (B l), .string (B sep), .bool b]) Try.func37 rfl rfl rfl (by simp) ?_
  repeat (first | refine Wp.seq ?_ | refine Wp.block ?_ | refine Wp.condT rfl ?_ | refine Wp.condF rfl ?_ | ((first | refine Wp.region rfl ?_ | refine Wp.skip ?_ | refine Wp.ret ?_ | refine Wp.exit ?_); simp -dsimp (maxSteps := 2000000) (disch := first | omega | ((repeat (first | rw [sz_drew] | rw [World.size_alloc] | rw [World.size_setCell] | rw [setCells_cons] | rw [setCells_nil])); first | done | omega) | fail) only [push_cast, ↓upd_at, ↓reduceIte, Nat.reduceEqDiff, Nat.reduceAdd, Nat.reduceMul, Nat.reduceSub, Nat.reduceLeDiff, Int.reduceToNat, reduceCtorEq, eq_self, beq_self_eq_true]) | refine And.intro (by first | omega | (simp only [List.length_append, List.length_cons, List.length_nil]; omega)) ?_)
  refine CallV.of isCall_34 h ?_
  rintro _ w' ⟨A, c, rfl, ho, hk⟩
  try (simp -dsimp (maxSteps := 2000000) (disch := first | omega | ((repeat (first | rw [sz_drew] | rw [World.size_alloc] | rw [World.size_setCell] | rw [setCells_cons] | rw [setCells_nil])); first | done | omega) | fail) only [push_cast, ↓upd_at, ↓reduceIte, Nat.reduceEqDiff, Nat.reduceAdd, Nat.reduceMul, Nat.reduceSub, Nat.reduceLeDiff, Int.reduceToNat, reduceCtorEq, eq_self, beq_self_eq_true])
  repeat (first | refine Wp.seq ?_ | refine Wp.block ?_ | refine Wp.condT rfl ?_ | refine Wp.condF rfl ?_ | ((first | refine Wp.region rfl ?_ | refine Wp.skip ?_ | refine Wp.ret ?_ | refine Wp.exit ?_); simp -dsimp (maxSteps := 2000000) (disch := first | omega | ((repeat (first | rw [sz_drew] | rw [World.size_alloc] | rw [World.size_setCell] | rw [setCells_cons] | rw [setCells_nil])); first | done | omega) | fail) only [push_cast, ↓upd_at, ↓reduceIte, Nat.reduceEqDiff, Nat.reduceAdd, Nat.reduceMul, Nat.reduceSub, Nat.reduceLeDiff, Int.reduceToNat, reduceCtorEq, eq_self, beq_self_eq_true]) | refine And.intro (by first | omega | (simp only [List.length_append, List.length_cons, List.length_nil]; omega)) ?_)
  refine Ret.mk ⟨w'.heap.size, rfl, hk.size, ⟨A, c, Blk.new _ _ _, ho.alloc _⟩, hk.alloc _⟩

theorem awake10 (w : World) : Calls Try.prog 33 #[] w fun e w' => e = .returned (.bool true) ∧ Kp0 w w' := by
  refine enter (n := 36) (args := []) Try.func33 rfl rfl rfl (by simp) ?_
  repeat (first | refine Wp.seq ?_ | refine Wp.block ?_ | refine Wp.condT rfl ?_ | refine Wp.condF rfl ?_ | ((first | refine Wp.region rfl ?_ | refine Wp.skip ?_ | refine Wp.ret ?_ | refine Wp.exit ?_); simp -dsimp (maxSteps := 2000000) (disch := first | omega | ((repeat (first | rw [sz_drew] | rw [World.size_alloc] | rw [World.size_setCell] | rw [setCells_cons] | rw [setCells_nil])); first | done | omega) | fail) only [push_cast, ↓upd_at, ↓reduceIte, Nat.reduceEqDiff, Nat.reduceAdd, Nat.reduceMul, Nat.reduceSub, Nat.reduceLeDiff, Int.reduceToNat, reduceCtorEq, eq_self, beq_self_eq_true]) | refine And.intro (by first | omega | (simp only [List.length_append, List.length_cons, List.length_nil]; omega)) ?_)
  refine CallV.of isCall_37 (new_any (split_blank _ _ _ (by decide))) ?_
  rintro _ w1 ⟨r, rfl, hr, hrec, hk⟩
  try (simp -dsimp (maxSteps := 2000000) (disch := first | omega | ((repeat (first | rw [sz_drew] | rw [World.size_alloc] | rw [World.size_setCell] | rw [setCells_cons] | rw [setCells_nil])); first | done | omega) | fail) only [push_cast, ↓upd_at, ↓reduceIte, Nat.reduceEqDiff, Nat.reduceAdd, Nat.reduceMul, Nat.reduceSub, Nat.reduceLeDiff, Int.reduceToNat, reduceCtorEq, eq_self, beq_self_eq_true])
  repeat (first | refine Wp.seq ?_ | refine Wp.block ?_ | refine Wp.condT rfl ?_ | refine Wp.condF rfl ?_ | ((first | refine Wp.region rfl ?_ | refine Wp.skip ?_ | refine Wp.ret ?_ | refine Wp.exit ?_); simp -dsimp (maxSteps := 2000000) (disch := first | omega | ((repeat (first | rw [sz_drew] | rw [World.size_alloc] | rw [World.size_setCell] | rw [setCells_cons] | rw [setCells_nil])); first | done | omega) | fail) only [push_cast, ↓upd_at, ↓reduceIte, Nat.reduceEqDiff, Nat.reduceAdd, Nat.reduceMul, Nat.reduceSub, Nat.reduceLeDiff, Int.reduceToNat, reduceCtorEq, eq_self, beq_self_eq_true]) | refine And.intro (by first | omega | (simp only [List.length_append, List.length_cons, List.length_nil]; omega)) ?_)
  refine CallV.of isCall_44 (get_any hrec 2 (by omega) (by decide)) ?_
  rintro _ _ ⟨rfl, rfl⟩
  have e1 : getM [97, 32, 98, 32, 99] (blanks [97, 32, 98, 32, 99]) 2 = ([98], true) := by decide
  try (simp -dsimp (maxSteps := 2000000) (disch := first | omega | ((repeat (first | rw [sz_drew] | rw [World.size_alloc] | rw [World.size_setCell] | rw [setCells_cons] | rw [setCells_nil])); first | done | omega) | fail) only [push_cast, ↓upd_at, ↓reduceIte, Nat.reduceEqDiff, Nat.reduceAdd, Nat.reduceMul, Nat.reduceSub, Nat.reduceLeDiff, Int.reduceToNat, reduceCtorEq, eq_self, beq_self_eq_true, e1, beq_self_eq_true])
  repeat (first | refine Wp.seq ?_ | refine Wp.block ?_ | refine Wp.condT rfl ?_ | refine Wp.condF rfl ?_ | ((first | refine Wp.region rfl ?_ | refine Wp.skip ?_ | refine Wp.ret ?_ | refine Wp.exit ?_); simp -dsimp (maxSteps := 2000000) (disch := first | omega | ((repeat (first | rw [sz_drew] | rw [World.size_alloc] | rw [World.size_setCell] | rw [setCells_cons] | rw [setCells_nil])); first | done | omega) | fail) only [push_cast, ↓upd_at, ↓reduceIte, Nat.reduceEqDiff, Nat.reduceAdd, Nat.reduceMul, Nat.reduceSub, Nat.reduceLeDiff, Int.reduceToNat, reduceCtorEq, eq_self, beq_self_eq_true, e1, beq_self_eq_true]) | refine And.intro (by first | omega | (simp only [List.length_append, List.length_cons, List.length_nil]; omega)) ?_)
  refine CallV.of isCall_40 (nf_any hrec) ?_
  rintro _ _ ⟨rfl, rfl⟩
  have e2 : ((blanks [97, 32, 98, 32, 99]).length : Int) = 3 := by decide
  have e3 : ((3 : Int) == 3) = true := rfl
  try (simp -dsimp (maxSteps := 2000000) (disch := first | omega | ((repeat (first | rw [sz_drew] | rw [World.size_alloc] | rw [World.size_setCell] | rw [setCells_cons] | rw [setCells_nil])); first | done | omega) | fail) only [push_cast, ↓upd_at, ↓reduceIte, Nat.reduceEqDiff, Nat.reduceAdd, Nat.reduceMul, Nat.reduceSub, Nat.reduceLeDiff, Int.reduceToNat, reduceCtorEq, eq_self, beq_self_eq_true, e2, e3])
  repeat (first | refine Wp.seq ?_ | refine Wp.block ?_ | refine Wp.condT rfl ?_ | refine Wp.condF rfl ?_ | ((first | refine Wp.region rfl ?_ | refine Wp.skip ?_ | refine Wp.ret ?_ | refine Wp.exit ?_); simp -dsimp (maxSteps := 2000000) (disch := first | omega | ((repeat (first | rw [sz_drew] | rw [World.size_alloc] | rw [World.size_setCell] | rw [setCells_cons] | rw [setCells_nil])); first | done | omega) | fail) only [push_cast, ↓upd_at, ↓reduceIte, Nat.reduceEqDiff, Nat.reduceAdd, Nat.reduceMul, Nat.reduceSub, Nat.reduceLeDiff, Int.reduceToNat, reduceCtorEq, eq_self, beq_self_eq_true, e2, e3]) | refine And.intro (by first | omega | (simp only [List.length_append, List.length_cons, List.length_nil]; omega)) ?_)
  refine CallV.of isCall_38 (set_any hrec 2 (by omega) (by decide) [120] [45] (by decide) (by decide) (by decide)) ?_
  intro e w2 hp
  rw [if_neg (by decide)] at hp
  obtain ⟨rfl, hrec2, hk2⟩ := hp
  try (simp -dsimp (maxSteps := 2000000) (disch := first | omega | ((repeat (first | rw [sz_drew] | rw [World.size_alloc] | rw [World.size_setCell] | rw [setCells_cons] | rw [setCells_nil])); first | done | omega) | fail) only [push_cast, ↓upd_at, ↓reduceIte, Nat.reduceEqDiff, Nat.reduceAdd, Nat.reduceMul, Nat.reduceSub, Nat.reduceLeDiff, Int.reduceToNat, reduceCtorEq, eq_self, beq_self_eq_true])
  repeat (first | refine Wp.seq ?_ | refine Wp.block ?_ | refine Wp.condT rfl ?_ | refine Wp.condF rfl ?_ | ((first | refine Wp.region rfl ?_ | refine Wp.skip ?_ | refine Wp.ret ?_ | refine Wp.exit ?_); simp -dsimp (maxSteps := 2000000) (disch := first | omega | ((repeat (first | rw [sz_drew] | rw [World.size_alloc] | rw [World.size_setCell] | rw [setCells_cons] | rw [setCells_nil])); first | done | omega) | fail) only [push_cast, ↓upd_at, ↓reduceIte, Nat.reduceEqDiff, Nat.reduceAdd, Nat.reduceMul, Nat.reduceSub, Nat.reduceLeDiff, Int.reduceToNat, reduceCtorEq, eq_self, beq_self_eq_true]) | refine And.intro (by first | omega | (simp only [List.length_append, List.length_cons, List.length_nil]; omega)) ?_)
  refine CallV.of isCall_39 (line_any hrec2) ?_
  rintro _ _ ⟨rfl, rfl⟩
  have e4 : (Lib.join (setM (blanks [97, 32, 98, 32, 99]) (2 : Int).toNat [120]) [45] == [97, 45, 120, 45, 99]) = true := by decide
  try (simp -dsimp (maxSteps := 2000000) (disch := first | omega | ((repeat (first | rw [sz_drew] | rw [World.size_alloc] | rw [World.size_setCell] | rw [setCells_cons] | rw [setCells_nil])); first | done | omega) | fail) only [push_cast, ↓upd_at, ↓reduceIte, Nat.reduceEqDiff, Nat.reduceAdd, Nat.reduceMul, Nat.reduceSub, Nat.reduceLeDiff, Int.reduceToNat, reduceCtorEq, eq_self, beq_self_eq_true, e4])
  repeat (first | refine Wp.seq ?_ | refine Wp.block ?_ | refine Wp.condT rfl ?_ | refine Wp.condF rfl ?_ | ((first | refine Wp.region rfl ?_ | refine Wp.skip ?_ | refine Wp.ret ?_ | refine Wp.exit ?_); simp -dsimp (maxSteps := 2000000) (disch := first | omega | ((repeat (first | rw [sz_drew] | rw [World.size_alloc] | rw [World.size_setCell] | rw [setCells_cons] | rw [setCells_nil])); first | done | omega) | fail) only [push_cast, ↓upd_at, ↓reduceIte, Nat.reduceEqDiff, Nat.reduceAdd, Nat.reduceMul, Nat.reduceSub, Nat.reduceLeDiff, Int.reduceToNat, reduceCtorEq, eq_self, beq_self_eq_true, e4]) | refine And.intro (by first | omega | (simp only [List.length_append, List.length_cons, List.length_nil]; omega)) ?_)
  exact Ret.mk ⟨rfl, hk.trans' hk2 (fun i hi he => by omega)⟩
end Go.Proofs.Ytddichibegppjaa
