/- Same texts? -/
import Derived.Test.YtddichibegppjaaF1
set_option linter.unusedSimpArgs false
set_option linter.unusedVariables false
attribute [local irreducible] Go.VC.OpV Go.VC.CallV Go.VC.Wp
namespace Go.Proofs.Ytddichibegppjaa
open Go Go.VC

abbrev Kp0 := Kp (fun _ => False)
section
variable {xs ys : List (List UInt8)} {w : World} {A A' : Option Addr} {c c' : Nat}

theorem same_any (hx : Txt w A xs) (hy : Txt w A' ys) (hn : xs.length ≤ 1000000) (hn' : ys.length ≤ 1000000) :
    Calls Try.prog 36 #[.slice A xs.length c, .slice A' ys.length c'] w fun e w' => e = .returned (.bool (decide (xs = ys))) ∧ Kp0 w w' := by
  refine enter (n := 26) (args := [.slice A xs.length c, .slice A' ys.length c']) Try.func36 rfl rfl rfl (by simp) ?_
  rcases Bool.eq_false_or_eq_true ((xs.length : Int) != (ys.length : Int)) with hl | hl
  · repeat (first | refine Wp.seq ?_ | refine Wp.block ?_ | refine Wp.condT rfl ?_ | refine Wp.condF rfl ?_ | ((first | refine Wp.region rfl ?_ | refine Wp.skip ?_ | refine Wp.ret ?_ | refine Wp.exit ?_); simp -dsimp (maxSteps := 2000000) (disch := first | omega | ((repeat (first | rw [sz_drew] | rw [World.size_alloc] | rw [World.size_setCell] | rw [setCells_cons] | rw [setCells_nil])); first | done | omega) | fail) only [push_cast, ↓upd_at, ↓reduceIte, Nat.reduceEqDiff, Nat.reduceAdd, Nat.reduceMul, Nat.reduceSub, Nat.reduceLeDiff, Int.reduceToNat, reduceCtorEq, eq_self, beq_self_eq_true, hl]) | refine And.intro (by first | omega | (simp only [List.length_append, List.length_cons, List.length_nil]; omega)) ?_)
    have : xs ≠ ys := by rintro rfl; simp at hl
    exact Ret.mk ⟨by simp [this], Kp.refl _ _⟩
  repeat (first | refine Wp.seq ?_ | refine Wp.block ?_ | refine Wp.condT rfl ?_ | refine Wp.condF rfl ?_ | ((first | refine Wp.region rfl ?_ | refine Wp.skip ?_ | refine Wp.ret ?_ | refine Wp.exit ?_); simp -dsimp (maxSteps := 2000000) (disch := first | omega | ((repeat (first | rw [sz_drew] | rw [World.size_alloc] | rw [World.size_setCell] | rw [setCells_cons] | rw [setCells_nil])); first | done | omega) | fail) only [push_cast, ↓upd_at, ↓reduceIte, Nat.reduceEqDiff, Nat.reduceAdd, Nat.reduceMul, Nat.reduceSub, Nat.reduceLeDiff, Int.reduceToNat, reduceCtorEq, eq_self, beq_self_eq_true, hl]) | refine And.intro (by first | omega | (simp only [List.length_append, List.length_cons, List.length_nil]; omega)) ?_)
  have hl' : xs.length = ys.length := by simp at hl; exact_mod_cast hl
  refine Wp.loop (α := Nat) (fun k F w1 => F 0 = .slice A xs.length c ∧ F 1 = .slice A' ys.length c' ∧ F 5 = .int .i64 k ∧ k ≤ xs.length ∧ Kp0 w w1 ∧ ∀ j, j < k → xs[j]? = ys[j]?) (fun k => xs.length - k) 0 ⟨rfl, rfl, rfl, by omega, Kp.refl _ _, fun _ h => by omega⟩ ?_
  rintro k F w1 ⟨h0, h1, h5, hk, hkp, heq⟩
  rcases Bool.eq_false_or_eq_true (decide ((k : Int) < (xs.length : Int))) with hd | hd
  · have hd' : k < xs.length := by simpa using hd
    obtain ⟨b, o, rfl, hb, hr⟩ := hx.form (by rintro rfl; simp at hd')
    obtain ⟨b', o', rfl, hb', hr'⟩ := hy.form (by rintro rfl; have : ([] : List (List UInt8)).length = 0 := rfl; omega)
    have e1 : rdc w1 b (o + k) = some (.string (B xs[k])) := by rw [hkp.rdc hb id]; exact hr k _ (List.getElem?_eq_getElem hd')
    have e2 : rdc w1 b' (o' + k) = some (.string (B (ys[k]'(by omega)))) := by rw [hkp.rdc hb' id]; exact hr' k _ (List.getElem?_eq_getElem (by omega))
    repeat (first | refine Wp.seq ?_ | refine Wp.block ?_ | refine Wp.condT rfl ?_ | refine Wp.condF rfl ?_ | ((first | refine Wp.region rfl ?_ | refine Wp.skip ?_ | refine Wp.ret ?_ | refine Wp.exit ?_); simp -dsimp (maxSteps := 2000000) (disch := first | omega | ((repeat (first | rw [sz_drew] | rw [World.size_alloc] | rw [World.size_setCell] | rw [setCells_cons] | rw [setCells_nil])); first | done | omega) | fail) only [push_cast, ↓upd_at, ↓reduceIte, Nat.reduceEqDiff, Nat.reduceAdd, Nat.reduceMul, Nat.reduceSub, Nat.reduceLeDiff, Int.reduceToNat, reduceCtorEq, eq_self, beq_self_eq_true, h0, h1, h5, hd]) | refine And.intro (by first | omega | (simp only [List.length_append, List.length_cons, List.length_nil]; omega)) ?_)
    refine Wp.draw [0, 0, 3, 7, 0, 0, 48, 112, 255] [] (.op 0 false false [] <| .op 1 false false [] <| .op 2 false false [] <| .op 3 false false [] <| .op 4 false false [] <| .op 5 false false [] <| .op 6 false false [] <| .op 7 false false [] <| .op 8 false false [] <| .nil) mixed (by kernel_rfl) ?_
    simp -dsimp (maxSteps := 2000000) (disch := first | omega | ((repeat (first | rw [sz_drew] | rw [World.size_alloc] | rw [World.size_setCell] | rw [setCells_cons] | rw [setCells_nil])); first | done | omega) | fail) only [push_cast, ↓upd_at, ↓reduceIte, Nat.reduceEqDiff, Nat.reduceAdd, Nat.reduceMul, Nat.reduceSub, Nat.reduceLeDiff, Int.reduceToNat, reduceCtorEq, eq_self, beq_self_eq_true, e1, e2, h0, h1, h5]
    refine ⟨by omega, by omega, ?_⟩
    rcases Bool.eq_false_or_eq_true (xs[k] == ys[k]'(by omega)) with he | he
    · have he' : (!xs[k] == ys[k]'(by omega)) = false := by simp [he]
      try (simp -dsimp (maxSteps := 2000000) (disch := first | omega | ((repeat (first | rw [sz_drew] | rw [World.size_alloc] | rw [World.size_setCell] | rw [setCells_cons] | rw [setCells_nil])); first | done | omega) | fail) only [push_cast, ↓upd_at, ↓reduceIte, Nat.reduceEqDiff, Nat.reduceAdd, Nat.reduceMul, Nat.reduceSub, Nat.reduceLeDiff, Int.reduceToNat, reduceCtorEq, eq_self, beq_self_eq_true, h0, h1, h5, he'])
      repeat (first | refine Wp.seq ?_ | refine Wp.block ?_ | refine Wp.condT rfl ?_ | refine Wp.condF rfl ?_ | ((first | refine Wp.region rfl ?_ | refine Wp.skip ?_ | refine Wp.ret ?_ | refine Wp.exit ?_); simp -dsimp (maxSteps := 2000000) (disch := first | omega | ((repeat (first | rw [sz_drew] | rw [World.size_alloc] | rw [World.size_setCell] | rw [setCells_cons] | rw [setCells_nil])); first | done | omega) | fail) only [push_cast, ↓upd_at, ↓reduceIte, Nat.reduceEqDiff, Nat.reduceAdd, Nat.reduceMul, Nat.reduceSub, Nat.reduceLeDiff, Int.reduceToNat, reduceCtorEq, eq_self, beq_self_eq_true, h0, h1, h5, he']) | refine And.intro (by first | omega | (simp only [List.length_append, List.length_cons, List.length_nil]; omega)) ?_)
      have hw : IntKind.i64.wrap ((k : Int) + 1) = ((k + 1 : Nat) : Int) := by rw [wrap_id (by omega)]; omega
      refine Again.mk (k + 1) ⟨?_, ?_, ?_, by omega, hkp.drew, ?_⟩ (by omega)
      · simp -dsimp (maxSteps := 2000000) (disch := first | omega | ((repeat (first | rw [sz_drew] | rw [World.size_alloc] | rw [World.size_setCell] | rw [setCells_cons] | rw [setCells_nil])); first | done | omega) | fail) only [push_cast, ↓upd_at, ↓reduceIte, Nat.reduceEqDiff, Nat.reduceAdd, Nat.reduceMul, Nat.reduceSub, Nat.reduceLeDiff, Int.reduceToNat, reduceCtorEq, eq_self, beq_self_eq_true, h0]
      · simp -dsimp (maxSteps := 2000000) (disch := first | omega | ((repeat (first | rw [sz_drew] | rw [World.size_alloc] | rw [World.size_setCell] | rw [setCells_cons] | rw [setCells_nil])); first | done | omega) | fail) only [push_cast, ↓upd_at, ↓reduceIte, Nat.reduceEqDiff, Nat.reduceAdd, Nat.reduceMul, Nat.reduceSub, Nat.reduceLeDiff, Int.reduceToNat, reduceCtorEq, eq_self, beq_self_eq_true, h1]
      · simp -dsimp (maxSteps := 2000000) (disch := first | omega | ((repeat (first | rw [sz_drew] | rw [World.size_alloc] | rw [World.size_setCell] | rw [setCells_cons] | rw [setCells_nil])); first | done | omega) | fail) only [push_cast, ↓upd_at, ↓reduceIte, Nat.reduceEqDiff, Nat.reduceAdd, Nat.reduceMul, Nat.reduceSub, Nat.reduceLeDiff, Int.reduceToNat, reduceCtorEq, eq_self, beq_self_eq_true, hw]
      · intro j hj
        rcases Nat.lt_or_ge j k with h | h
        · exact heq j h
        · obtain rfl : j = k := by omega
          rw [List.getElem?_eq_getElem hd', List.getElem?_eq_getElem (by omega)]
          simpa using he
    · have he' : (!xs[k] == ys[k]'(by omega)) = true := by simp [he]
      try (simp -dsimp (maxSteps := 2000000) (disch := first | omega | ((repeat (first | rw [sz_drew] | rw [World.size_alloc] | rw [World.size_setCell] | rw [setCells_cons] | rw [setCells_nil])); first | done | omega) | fail) only [push_cast, ↓upd_at, ↓reduceIte, Nat.reduceEqDiff, Nat.reduceAdd, Nat.reduceMul, Nat.reduceSub, Nat.reduceLeDiff, Int.reduceToNat, reduceCtorEq, eq_self, beq_self_eq_true, h0, h1, h5, he'])
      repeat (first | refine Wp.seq ?_ | refine Wp.block ?_ | refine Wp.condT rfl ?_ | refine Wp.condF rfl ?_ | ((first | refine Wp.region rfl ?_ | refine Wp.skip ?_ | refine Wp.ret ?_ | refine Wp.exit ?_); simp -dsimp (maxSteps := 2000000) (disch := first | omega | ((repeat (first | rw [sz_drew] | rw [World.size_alloc] | rw [World.size_setCell] | rw [setCells_cons] | rw [setCells_nil])); first | done | omega) | fail) only [push_cast, ↓upd_at, ↓reduceIte, Nat.reduceEqDiff, Nat.reduceAdd, Nat.reduceMul, Nat.reduceSub, Nat.reduceLeDiff, Int.reduceToNat, reduceCtorEq, eq_self, beq_self_eq_true, h0, h1, h5, he']) | refine And.intro (by first | omega | (simp only [List.length_append, List.length_cons, List.length_nil]; omega)) ?_)
      have : xs ≠ ys := by rintro rfl; simp at he
      exact Ret.mk ⟨by simp [this], hkp.drew⟩
  · have hd' : ¬ k < xs.length := by simpa using hd
    repeat (first | refine Wp.seq ?_ | refine Wp.block ?_ | refine Wp.condT rfl ?_ | refine Wp.condF rfl ?_ | ((first | refine Wp.region rfl ?_ | refine Wp.skip ?_ | refine Wp.ret ?_ | refine Wp.exit ?_); simp -dsimp (maxSteps := 2000000) (disch := first | omega | ((repeat (first | rw [sz_drew] | rw [World.size_alloc] | rw [World.size_setCell] | rw [setCells_cons] | rw [setCells_nil])); first | done | omega) | fail) only [push_cast, ↓upd_at, ↓reduceIte, Nat.reduceEqDiff, Nat.reduceAdd, Nat.reduceMul, Nat.reduceSub, Nat.reduceLeDiff, Int.reduceToNat, reduceCtorEq, eq_self, beq_self_eq_true, h0, h1, h5, hd]) | refine And.intro (by first | omega | (simp only [List.length_append, List.length_cons, List.length_nil]; omega)) ?_)
    have : xs = ys := List.ext_getElem? fun j => by
      rcases Nat.lt_or_ge j k with h | h
      · exact heq j h
      · rw [List.getElem?_eq_none (by omega), List.getElem?_eq_none (by omega)]
    exact Ret.mk ⟨by simp [this], hkp⟩
end
end Go.Proofs.Ytddichibegppjaa
