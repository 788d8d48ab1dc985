/- FieldBack: the law. -/
import Derived.Test.YtddichibegppjaaF6
set_option linter.unusedSimpArgs false
set_option linter.unusedVariables false
attribute [local irreducible] Go.VC.OpV Go.VC.CallV Go.VC.Wp
namespace Go.Proofs.Ytddichibegppjaa
open Go Go.VC

theorem sp_many (p : UInt8 → Bool) (l : List UInt8) : ∀ (m cur : List UInt8), (∀ c ∈ m, p c = false) → sp p cur (m ++ l) = sp p (cur ++ m) l
  | [], cur, _ => by simp
  | c :: m, cur, h => by
    have h1 := h c (by simp)
    simp only [List.cons_append, sp, h1]
    rw [if_neg (by simp), sp_many p l m _ (fun c hc => h c (by simp [hc]))]
    simp

theorem sp_join (c0 : UInt8) (p : UInt8 → Bool) (hp : p = cutp c0 false) : ∀ (x : List UInt8) (r : List (List UInt8)), (∀ y ∈ x :: r, ∀ c ∈ y, c ≠ c0) → sp p [] (Lib.join (x :: r) [c0]) = x :: r := by
  have hf : ∀ y : List UInt8, (∀ c ∈ y, c ≠ c0) → ∀ c ∈ y, p c = false := fun y h c hc => by rw [hp]; simpa [cutp] using h c hc
  have ht : p c0 = true := by rw [hp]; simp [cutp]
  have key : ∀ (r : List (List UInt8)) (x : List UInt8), (∀ y ∈ x :: r, ∀ c ∈ y, c ≠ c0) → sp p [] (x ++ Lib.joinTail [c0] r) = x :: r := by
    intro r
    induction r with
    | nil =>
      intro x h
      have := sp_many p [] x [] (hf x (h x (by simp)))
      simp [Lib.joinTail, sp] at this ⊢
      exact this
    | cons y r ih =>
      intro x h
      rw [sp_many p _ x [] (hf x (h x (by simp)))]
      have e : Lib.joinTail [c0] (y :: r) = c0 :: (y ++ Lib.joinTail [c0] r) := by simp [Lib.joinTail]
      rw [e]
      simp only [sp, ht, if_true, List.nil_append]
      rw [ih y (fun z hz => h z (List.mem_cons_of_mem _ hz))]
  intro x r h
  rw [Lib.join_cons]
  exact key r x h

theorem bysep_join (c0 : UInt8) (l : List (List UInt8)) (hl : l ≠ []) (h1 : ¬ (l.length = 1 ∧ l.head? = some [])) (h : ∀ y ∈ l, ∀ c ∈ y, c ≠ c0) : bysep (cutp c0 false) (Lib.join l [c0]) = l := by
  obtain ⟨x, r, rfl⟩ : ∃ x r, l = x :: r := by cases l with | nil => exact absurd rfl hl | cons x r => exact ⟨x, r, rfl⟩
  unfold bysep
  rw [if_neg, sp_join c0 _ rfl x r h]
  rw [Lib.join_cons]
  intro e
  have hx : x = [] := by cases x <;> simp at e ⊢
  subst hx
  cases r with
  | nil => simp at h1
  | cons y r => simp [Lib.joinTail] at e

theorem setM_take (l : List (List UInt8)) (k : Nat) (hk : k < l.length) : setM (l.take k) (k + 1) l[k] = l.take (k + 1) := by
  unfold setM
  have h1 : (l.take k).length = k := by simp; omega
  rw [h1, show k + 1 - k = 1 by omega, List.take_succ_eq_append_getElem hk, List.set_append]
  simp [h1]

section
variable {w : World} {A : Option Addr} {cap : Nat} {l : List (List UInt8)} {c0 : UInt8}

set_option maxHeartbeats 4000000 in
theorem fieldBack_any (hx : Txt w A l) (hbig : ∀ y ∈ l, y.length ≤ 281474976710656) : Calls Try.prog 12 #[.slice A l.length cap, by8 c0] w fun e w' => e = .returned (.bool true) ∧ Kp0 w w' := by
  unfold by8
  refine enter (n := 103) (args := [.slice A l.length cap, .int .u8 (c0.toNat : Int)]) Try.func12 rfl rfl rfl (by simp) ?_
  repeat (first | refine Wp.seq ?_ | refine Wp.block ?_ | refine Wp.condT rfl ?_ | refine Wp.condF rfl ?_ | ((first | refine Wp.region rfl ?_ | refine Wp.skip ?_ | refine Wp.ret ?_ | refine Wp.exit ?_); simp -dsimp (maxSteps := 2000000) (disch := first | omega | ((repeat (first | rw [sz_drew] | rw [World.size_alloc] | rw [World.size_setCell] | rw [setCells_cons] | rw [setCells_nil])); first | done | omega) | fail) only [push_cast, ↓upd_at, ↓reduceIte, Nat.reduceEqDiff, Nat.reduceAdd, Nat.reduceMul, Nat.reduceSub, Nat.reduceLeDiff, Int.reduceToNat, reduceCtorEq, eq_self, beq_self_eq_true]) | refine And.intro (by first | omega | (simp only [List.length_append, List.length_cons, List.length_nil]; omega)) ?_)
  refine CallV.of isCall_33 (awake10 w) ?_
  rintro _ w1 ⟨rfl, hk1⟩
  rcases Bool.eq_false_or_eq_true (decide ((l.length : Int) > 100)) with h1 | h1
  · try (simp -dsimp (maxSteps := 2000000) (disch := first | omega | ((repeat (first | rw [sz_drew] | rw [World.size_alloc] | rw [World.size_setCell] | rw [setCells_cons] | rw [setCells_nil])); first | done | omega) | fail) only [push_cast, ↓upd_at, ↓reduceIte, Nat.reduceEqDiff, Nat.reduceAdd, Nat.reduceMul, Nat.reduceSub, Nat.reduceLeDiff, Int.reduceToNat, reduceCtorEq, eq_self, beq_self_eq_true, h1])
    repeat (first | refine Wp.seq ?_ | refine Wp.block ?_ | refine Wp.condT rfl ?_ | refine Wp.condF rfl ?_ | ((first | refine Wp.region rfl ?_ | refine Wp.skip ?_ | refine Wp.ret ?_ | refine Wp.exit ?_); simp -dsimp (maxSteps := 2000000) (disch := first | omega | ((repeat (first | rw [sz_drew] | rw [World.size_alloc] | rw [World.size_setCell] | rw [setCells_cons] | rw [setCells_nil])); first | done | omega) | fail) only [push_cast, ↓upd_at, ↓reduceIte, Nat.reduceEqDiff, Nat.reduceAdd, Nat.reduceMul, Nat.reduceSub, Nat.reduceLeDiff, Int.reduceToNat, reduceCtorEq, eq_self, beq_self_eq_true, h1]) | refine And.intro (by first | omega | (simp only [List.length_append, List.length_cons, List.length_nil]; omega)) ?_)
    exact Ret.mk ⟨rfl, hk1⟩
  have h1' : l.length ≤ 100 := by simp at h1; omega
  rcases Bool.eq_false_or_eq_true ((l.length : Int) == 0) with h2 | h2
  · try (simp -dsimp (maxSteps := 2000000) (disch := first | omega | ((repeat (first | rw [sz_drew] | rw [World.size_alloc] | rw [World.size_setCell] | rw [setCells_cons] | rw [setCells_nil])); first | done | omega) | fail) only [push_cast, ↓upd_at, ↓reduceIte, Nat.reduceEqDiff, Nat.reduceAdd, Nat.reduceMul, Nat.reduceSub, Nat.reduceLeDiff, Int.reduceToNat, reduceCtorEq, eq_self, beq_self_eq_true, h1, h2])
    repeat (first | refine Wp.seq ?_ | refine Wp.block ?_ | refine Wp.condT rfl ?_ | refine Wp.condF rfl ?_ | ((first | refine Wp.region rfl ?_ | refine Wp.skip ?_ | refine Wp.ret ?_ | refine Wp.exit ?_); simp -dsimp (maxSteps := 2000000) (disch := first | omega | ((repeat (first | rw [sz_drew] | rw [World.size_alloc] | rw [World.size_setCell] | rw [setCells_cons] | rw [setCells_nil])); first | done | omega) | fail) only [push_cast, ↓upd_at, ↓reduceIte, Nat.reduceEqDiff, Nat.reduceAdd, Nat.reduceMul, Nat.reduceSub, Nat.reduceLeDiff, Int.reduceToNat, reduceCtorEq, eq_self, beq_self_eq_true, h1, h2]) | refine And.intro (by first | omega | (simp only [List.length_append, List.length_cons, List.length_nil]; omega)) ?_)
    exact Ret.mk ⟨rfl, hk1⟩
  have h2' : l ≠ [] := by rintro rfl; simp at h2
  have e32 : ((c0.toNat : Int) == 32) = (c0 == 32) := u8_eq c0 32
  rcases Bool.eq_false_or_eq_true (c0 == 32) with h3 | h3
  · try (simp -dsimp (maxSteps := 2000000) (disch := first | omega | ((repeat (first | rw [sz_drew] | rw [World.size_alloc] | rw [World.size_setCell] | rw [setCells_cons] | rw [setCells_nil])); first | done | omega) | fail) only [push_cast, ↓upd_at, ↓reduceIte, Nat.reduceEqDiff, Nat.reduceAdd, Nat.reduceMul, Nat.reduceSub, Nat.reduceLeDiff, Int.reduceToNat, reduceCtorEq, eq_self, beq_self_eq_true, h1, h2, e32, h3])
    repeat (first | refine Wp.seq ?_ | refine Wp.block ?_ | refine Wp.condT rfl ?_ | refine Wp.condF rfl ?_ | ((first | refine Wp.region rfl ?_ | refine Wp.skip ?_ | refine Wp.ret ?_ | refine Wp.exit ?_); simp -dsimp (maxSteps := 2000000) (disch := first | omega | ((repeat (first | rw [sz_drew] | rw [World.size_alloc] | rw [World.size_setCell] | rw [setCells_cons] | rw [setCells_nil])); first | done | omega) | fail) only [push_cast, ↓upd_at, ↓reduceIte, Nat.reduceEqDiff, Nat.reduceAdd, Nat.reduceMul, Nat.reduceSub, Nat.reduceLeDiff, Int.reduceToNat, reduceCtorEq, eq_self, beq_self_eq_true, h1, h2, e32, h3]) | refine And.intro (by first | omega | (simp only [List.length_append, List.length_cons, List.length_nil]; omega)) ?_)
    exact Ret.mk ⟨rfl, hk1⟩
  have h3' : c0 ≠ 32 := by simpa using h3
  try (simp -dsimp (maxSteps := 2000000) (disch := first | omega | ((repeat (first | rw [sz_drew] | rw [World.size_alloc] | rw [World.size_setCell] | rw [setCells_cons] | rw [setCells_nil])); first | done | omega) | fail) only [push_cast, ↓upd_at, ↓reduceIte, Nat.reduceEqDiff, Nat.reduceAdd, Nat.reduceMul, Nat.reduceSub, Nat.reduceLeDiff, Int.reduceToNat, reduceCtorEq, eq_self, beq_self_eq_true, h1, h2, e32, h3])
  repeat (first | refine Wp.seq ?_ | refine Wp.block ?_ | refine Wp.condT rfl ?_ | refine Wp.condF rfl ?_ | ((first | refine Wp.region rfl ?_ | refine Wp.skip ?_ | refine Wp.ret ?_ | refine Wp.exit ?_); simp -dsimp (maxSteps := 2000000) (disch := first | omega | ((repeat (first | rw [sz_drew] | rw [World.size_alloc] | rw [World.size_setCell] | rw [setCells_cons] | rw [setCells_nil])); first | done | omega) | fail) only [push_cast, ↓upd_at, ↓reduceIte, Nat.reduceEqDiff, Nat.reduceAdd, Nat.reduceMul, Nat.reduceSub, Nat.reduceLeDiff, Int.reduceToNat, reduceCtorEq, eq_self, beq_self_eq_true, h1, h2, e32, h3]) | refine And.intro (by first | omega | (simp only [List.length_append, List.length_cons, List.length_nil]; omega)) ?_)
  refine CallV.of isCall_37 (new_any (split_byte [] 58 false w1 (by simp) (by decide))) ?_
  rintro _ w2 ⟨r, rfl, hr, hrec, hk2⟩
  try (simp -dsimp (maxSteps := 2000000) (disch := first | omega | ((repeat (first | rw [sz_drew] | rw [World.size_alloc] | rw [World.size_setCell] | rw [setCells_cons] | rw [setCells_nil])); first | done | omega) | fail) only [push_cast, ↓upd_at, ↓reduceIte, Nat.reduceEqDiff, Nat.reduceAdd, Nat.reduceMul, Nat.reduceSub, Nat.reduceLeDiff, Int.reduceToNat, reduceCtorEq, eq_self, beq_self_eq_true])
  repeat (first | refine Wp.seq ?_ | refine Wp.block ?_ | refine Wp.condT rfl ?_ | refine Wp.condF rfl ?_ | ((first | refine Wp.region rfl ?_ | refine Wp.skip ?_ | refine Wp.ret ?_ | refine Wp.exit ?_); simp -dsimp (maxSteps := 2000000) (disch := first | omega | ((repeat (first | rw [sz_drew] | rw [World.size_alloc] | rw [World.size_setCell] | rw [setCells_cons] | rw [setCells_nil])); first | done | omega) | fail) only [push_cast, ↓upd_at, ↓reduceIte, Nat.reduceEqDiff, Nat.reduceAdd, Nat.reduceMul, Nat.reduceSub, Nat.reduceLeDiff, Int.reduceToNat, reduceCtorEq, eq_self, beq_self_eq_true]) | refine And.intro (by first | omega | (simp only [List.length_append, List.length_cons, List.length_nil]; omega)) ?_)
  refine Wp.loop (α := Nat) (fun k F w3 => ∃ n : Nat, F 0 = .slice A l.length cap ∧ F 1 = .int .u8 (c0.toNat : Int) ∧ F 5 = .pointer (some ⟨r, 0, none⟩) ∧ F 7 = .int .i64 n ∧ F 32 = .slice A l.length cap ∧ F 33 = .int .i64 l.length ∧ F 34 = .int .i64 k ∧ k ≤ l.length ∧ n ≤ 1000 ∧
      Rec w3 r (Lib.join (l.take k) [c0]) (l.take k) ∧ Kp0 w w3 ∧ (∀ y ∈ l.take k, y.length ≤ 1000) ∧ (∀ y ∈ l.take k, ∀ c ∈ y, c ≠ c0)) (fun k => l.length - k) 0
    ⟨0, ?_, ?_, ?_, ?_, ?_, ?_, ?_, by omega, by omega, hrec, hk1.trans hk2, by simp, by simp⟩ ?_
  · simp -dsimp (maxSteps := 2000000) (disch := first | omega | ((repeat (first | rw [sz_drew] | rw [World.size_alloc] | rw [World.size_setCell] | rw [setCells_cons] | rw [setCells_nil])); first | done | omega) | fail) only [push_cast, ↓upd_at, ↓reduceIte, Nat.reduceEqDiff, Nat.reduceAdd, Nat.reduceMul, Nat.reduceSub, Nat.reduceLeDiff, Int.reduceToNat, reduceCtorEq, eq_self, beq_self_eq_true]
  · simp -dsimp (maxSteps := 2000000) (disch := first | omega | ((repeat (first | rw [sz_drew] | rw [World.size_alloc] | rw [World.size_setCell] | rw [setCells_cons] | rw [setCells_nil])); first | done | omega) | fail) only [push_cast, ↓upd_at, ↓reduceIte, Nat.reduceEqDiff, Nat.reduceAdd, Nat.reduceMul, Nat.reduceSub, Nat.reduceLeDiff, Int.reduceToNat, reduceCtorEq, eq_self, beq_self_eq_true]
  · simp -dsimp (maxSteps := 2000000) (disch := first | omega | ((repeat (first | rw [sz_drew] | rw [World.size_alloc] | rw [World.size_setCell] | rw [setCells_cons] | rw [setCells_nil])); first | done | omega) | fail) only [push_cast, ↓upd_at, ↓reduceIte, Nat.reduceEqDiff, Nat.reduceAdd, Nat.reduceMul, Nat.reduceSub, Nat.reduceLeDiff, Int.reduceToNat, reduceCtorEq, eq_self, beq_self_eq_true]
  · simp -dsimp (maxSteps := 2000000) (disch := first | omega | ((repeat (first | rw [sz_drew] | rw [World.size_alloc] | rw [World.size_setCell] | rw [setCells_cons] | rw [setCells_nil])); first | done | omega) | fail) only [push_cast, ↓upd_at, ↓reduceIte, Nat.reduceEqDiff, Nat.reduceAdd, Nat.reduceMul, Nat.reduceSub, Nat.reduceLeDiff, Int.reduceToNat, reduceCtorEq, eq_self, beq_self_eq_true]
  · simp -dsimp (maxSteps := 2000000) (disch := first | omega | ((repeat (first | rw [sz_drew] | rw [World.size_alloc] | rw [World.size_setCell] | rw [setCells_cons] | rw [setCells_nil])); first | done | omega) | fail) only [push_cast, ↓upd_at, ↓reduceIte, Nat.reduceEqDiff, Nat.reduceAdd, Nat.reduceMul, Nat.reduceSub, Nat.reduceLeDiff, Int.reduceToNat, reduceCtorEq, eq_self, beq_self_eq_true]
  · simp -dsimp (maxSteps := 2000000) (disch := first | omega | ((repeat (first | rw [sz_drew] | rw [World.size_alloc] | rw [World.size_setCell] | rw [setCells_cons] | rw [setCells_nil])); first | done | omega) | fail) only [push_cast, ↓upd_at, ↓reduceIte, Nat.reduceEqDiff, Nat.reduceAdd, Nat.reduceMul, Nat.reduceSub, Nat.reduceLeDiff, Int.reduceToNat, reduceCtorEq, eq_self, beq_self_eq_true]
  · simp -dsimp (maxSteps := 2000000) (disch := first | omega | ((repeat (first | rw [sz_drew] | rw [World.size_alloc] | rw [World.size_setCell] | rw [setCells_cons] | rw [setCells_nil])); first | done | omega) | fail) only [push_cast, ↓upd_at, ↓reduceIte, Nat.reduceEqDiff, Nat.reduceAdd, Nat.reduceMul, Nat.reduceSub, Nat.reduceLeDiff, Int.reduceToNat, reduceCtorEq, eq_self, beq_self_eq_true]
  rintro k F w3 ⟨n, f0, f1, f5, f7, f32, f33, f34, hk, hn, hrec, hkp, hlen, hsep⟩
  rcases Bool.eq_false_or_eq_true (decide ((k : Int) < (l.length : Int))) with h4 | h4
  · have hk' : k < l.length := by simpa using h4
    obtain ⟨b, o, rfl, hb, hrd⟩ := hx.form h2'
    have e1 : rdc w3 b (o + k) = some (.string (B l[k])) := by rw [hkp.rdc hb id]; exact hrd k _ (List.getElem?_eq_getElem hk')
    have hwr : IntKind.i64.wrap ((k : Int) + 1) = ((k + 1 : Nat) : Int) := by rw [wrap_id (by omega)]; omega
    have hset := setM_take l k hk'
    have htk : l.take (k + 1) = l.take k ++ [l[k]] := List.take_succ_eq_append_getElem hk'
    have hbf := hbig l[k] (List.getElem_mem hk')
    generalize l[k] = f at *
    by_cases h5 : n + f.length ≤ 1000
    · have h5' : decide ((n : Int) + (f.length : Int) > 1000) = false := by simp; omega
      have hwn : IntKind.i64.wrap ((n : Int) + (f.length : Int)) = ((n + f.length : Nat) : Int) := by rw [wrap_id (by omega)]; omega
      repeat (first | refine Wp.seq ?_ | refine Wp.block ?_ | refine Wp.condT rfl ?_ | refine Wp.condF rfl ?_ | ((first | refine Wp.region rfl ?_ | refine Wp.skip ?_ | refine Wp.ret ?_ | refine Wp.exit ?_); simp -dsimp (maxSteps := 2000000) (disch := first | omega | ((repeat (first | rw [sz_drew] | rw [World.size_alloc] | rw [World.size_setCell] | rw [setCells_cons] | rw [setCells_nil])); first | done | omega) | fail) only [push_cast, ↓upd_at, ↓reduceIte, Nat.reduceEqDiff, Nat.reduceAdd, Nat.reduceMul, Nat.reduceSub, Nat.reduceLeDiff, Int.reduceToNat, reduceCtorEq, eq_self, beq_self_eq_true, f0, f1, f5, f7, f32, f33, f34, h4, e1, hwn, h5']) | refine And.intro (by first | omega | (simp only [List.length_append, List.length_cons, List.length_nil]; omega)) ?_)
      refine Wp.loop (α := Nat) (fun j F w4 => F 0 = .slice (some ⟨b, o, none⟩) l.length cap ∧ F 1 = .int .u8 (c0.toNat : Int) ∧ F 5 = .pointer (some ⟨r, 0, none⟩) ∧ F 7 = .int .i64 (n + f.length : Nat) ∧ F 32 = .slice (some ⟨b, o, none⟩) l.length cap ∧ F 33 = .int .i64 l.length ∧ F 34 = .int .i64 k ∧ F 8 = .int .i64 k ∧ F 9 = .string (B f) ∧ F 10 = .int .i64 j ∧ j ≤ f.length ∧ w3 = w4 ∧ ∀ c ∈ f.take j, c ≠ c0) (fun j => f.length - j) 0
        ⟨?_, ?_, ?_, ?_, ?_, ?_, ?_, ?_, ?_, ?_, by omega, rfl, by simp⟩ ?_
      · simp -dsimp (maxSteps := 2000000) (disch := first | omega | ((repeat (first | rw [sz_drew] | rw [World.size_alloc] | rw [World.size_setCell] | rw [setCells_cons] | rw [setCells_nil])); first | done | omega) | fail) only [push_cast, ↓upd_at, ↓reduceIte, Nat.reduceEqDiff, Nat.reduceAdd, Nat.reduceMul, Nat.reduceSub, Nat.reduceLeDiff, Int.reduceToNat, reduceCtorEq, eq_self, beq_self_eq_true, f0]
      · simp -dsimp (maxSteps := 2000000) (disch := first | omega | ((repeat (first | rw [sz_drew] | rw [World.size_alloc] | rw [World.size_setCell] | rw [setCells_cons] | rw [setCells_nil])); first | done | omega) | fail) only [push_cast, ↓upd_at, ↓reduceIte, Nat.reduceEqDiff, Nat.reduceAdd, Nat.reduceMul, Nat.reduceSub, Nat.reduceLeDiff, Int.reduceToNat, reduceCtorEq, eq_self, beq_self_eq_true, f1]
      · simp -dsimp (maxSteps := 2000000) (disch := first | omega | ((repeat (first | rw [sz_drew] | rw [World.size_alloc] | rw [World.size_setCell] | rw [setCells_cons] | rw [setCells_nil])); first | done | omega) | fail) only [push_cast, ↓upd_at, ↓reduceIte, Nat.reduceEqDiff, Nat.reduceAdd, Nat.reduceMul, Nat.reduceSub, Nat.reduceLeDiff, Int.reduceToNat, reduceCtorEq, eq_self, beq_self_eq_true, f5]
      · simp -dsimp (maxSteps := 2000000) (disch := first | omega | ((repeat (first | rw [sz_drew] | rw [World.size_alloc] | rw [World.size_setCell] | rw [setCells_cons] | rw [setCells_nil])); first | done | omega) | fail) only [push_cast, ↓upd_at, ↓reduceIte, Nat.reduceEqDiff, Nat.reduceAdd, Nat.reduceMul, Nat.reduceSub, Nat.reduceLeDiff, Int.reduceToNat, reduceCtorEq, eq_self, beq_self_eq_true, hwn]
      · simp -dsimp (maxSteps := 2000000) (disch := first | omega | ((repeat (first | rw [sz_drew] | rw [World.size_alloc] | rw [World.size_setCell] | rw [setCells_cons] | rw [setCells_nil])); first | done | omega) | fail) only [push_cast, ↓upd_at, ↓reduceIte, Nat.reduceEqDiff, Nat.reduceAdd, Nat.reduceMul, Nat.reduceSub, Nat.reduceLeDiff, Int.reduceToNat, reduceCtorEq, eq_self, beq_self_eq_true, f32]
      · simp -dsimp (maxSteps := 2000000) (disch := first | omega | ((repeat (first | rw [sz_drew] | rw [World.size_alloc] | rw [World.size_setCell] | rw [setCells_cons] | rw [setCells_nil])); first | done | omega) | fail) only [push_cast, ↓upd_at, ↓reduceIte, Nat.reduceEqDiff, Nat.reduceAdd, Nat.reduceMul, Nat.reduceSub, Nat.reduceLeDiff, Int.reduceToNat, reduceCtorEq, eq_self, beq_self_eq_true, f33]
      · simp -dsimp (maxSteps := 2000000) (disch := first | omega | ((repeat (first | rw [sz_drew] | rw [World.size_alloc] | rw [World.size_setCell] | rw [setCells_cons] | rw [setCells_nil])); first | done | omega) | fail) only [push_cast, ↓upd_at, ↓reduceIte, Nat.reduceEqDiff, Nat.reduceAdd, Nat.reduceMul, Nat.reduceSub, Nat.reduceLeDiff, Int.reduceToNat, reduceCtorEq, eq_self, beq_self_eq_true, f34]
      · simp -dsimp (maxSteps := 2000000) (disch := first | omega | ((repeat (first | rw [sz_drew] | rw [World.size_alloc] | rw [World.size_setCell] | rw [setCells_cons] | rw [setCells_nil])); first | done | omega) | fail) only [push_cast, ↓upd_at, ↓reduceIte, Nat.reduceEqDiff, Nat.reduceAdd, Nat.reduceMul, Nat.reduceSub, Nat.reduceLeDiff, Int.reduceToNat, reduceCtorEq, eq_self, beq_self_eq_true]
      · simp -dsimp (maxSteps := 2000000) (disch := first | omega | ((repeat (first | rw [sz_drew] | rw [World.size_alloc] | rw [World.size_setCell] | rw [setCells_cons] | rw [setCells_nil])); first | done | omega) | fail) only [push_cast, ↓upd_at, ↓reduceIte, Nat.reduceEqDiff, Nat.reduceAdd, Nat.reduceMul, Nat.reduceSub, Nat.reduceLeDiff, Int.reduceToNat, reduceCtorEq, eq_self, beq_self_eq_true]
      · simp -dsimp (maxSteps := 2000000) (disch := first | omega | ((repeat (first | rw [sz_drew] | rw [World.size_alloc] | rw [World.size_setCell] | rw [setCells_cons] | rw [setCells_nil])); first | done | omega) | fail) only [push_cast, ↓upd_at, ↓reduceIte, Nat.reduceEqDiff, Nat.reduceAdd, Nat.reduceMul, Nat.reduceSub, Nat.reduceLeDiff, Int.reduceToNat, reduceCtorEq, eq_self, beq_self_eq_true]
      rintro j F _ ⟨f0, f1, f5, f7, f32, f33, f34, f8, f9, f10, hj, rfl, hns⟩
      rcases Bool.eq_false_or_eq_true (decide ((j : Int) < (f.length : Int))) with h6 | h6
      · have hj' : j < f.length := by simpa using h6
        have hbt : bt (B f) j = (f[j].toNat : Int) := by rw [bt_B]; simp [hj']
        have hwj : IntKind.i64.wrap ((j : Int) + 1) = ((j + 1 : Nat) : Int) := by rw [wrap_id (by omega)]; omega
        rcases Bool.eq_false_or_eq_true (f[j] == c0) with h7 | h7
        · repeat (first | refine Wp.seq ?_ | refine Wp.block ?_ | refine Wp.condT rfl ?_ | refine Wp.condF rfl ?_ | ((first | refine Wp.region rfl ?_ | refine Wp.skip ?_ | refine Wp.ret ?_ | refine Wp.exit ?_); simp -dsimp (maxSteps := 2000000) (disch := first | omega | ((repeat (first | rw [sz_drew] | rw [World.size_alloc] | rw [World.size_setCell] | rw [setCells_cons] | rw [setCells_nil])); first | done | omega) | fail) only [push_cast, ↓upd_at, ↓reduceIte, Nat.reduceEqDiff, Nat.reduceAdd, Nat.reduceMul, Nat.reduceSub, Nat.reduceLeDiff, Int.reduceToNat, reduceCtorEq, eq_self, beq_self_eq_true, f0, f1, f5, f7, f32, f33, f34, f8, f9, f10, h6, hbt, u8_eq, h7]) | refine And.intro (by first | omega | (simp only [List.length_append, List.length_cons, List.length_nil]; omega)) ?_)
          exact Ret.mk ⟨rfl, hkp⟩
        · repeat (first | refine Wp.seq ?_ | refine Wp.block ?_ | refine Wp.condT rfl ?_ | refine Wp.condF rfl ?_ | ((first | refine Wp.region rfl ?_ | refine Wp.skip ?_ | refine Wp.ret ?_ | refine Wp.exit ?_); simp -dsimp (maxSteps := 2000000) (disch := first | omega | ((repeat (first | rw [sz_drew] | rw [World.size_alloc] | rw [World.size_setCell] | rw [setCells_cons] | rw [setCells_nil])); first | done | omega) | fail) only [push_cast, ↓upd_at, ↓reduceIte, Nat.reduceEqDiff, Nat.reduceAdd, Nat.reduceMul, Nat.reduceSub, Nat.reduceLeDiff, Int.reduceToNat, reduceCtorEq, eq_self, beq_self_eq_true, f0, f1, f5, f7, f32, f33, f34, f8, f9, f10, h6, hbt, u8_eq, h7]) | refine And.intro (by first | omega | (simp only [List.length_append, List.length_cons, List.length_nil]; omega)) ?_)
          refine Again.mk (j + 1) ⟨?_, ?_, ?_, ?_, ?_, ?_, ?_, ?_, ?_, ?_, by omega, rfl, ?_⟩ (by omega)
          · simp -dsimp (maxSteps := 2000000) (disch := first | omega | ((repeat (first | rw [sz_drew] | rw [World.size_alloc] | rw [World.size_setCell] | rw [setCells_cons] | rw [setCells_nil])); first | done | omega) | fail) only [push_cast, ↓upd_at, ↓reduceIte, Nat.reduceEqDiff, Nat.reduceAdd, Nat.reduceMul, Nat.reduceSub, Nat.reduceLeDiff, Int.reduceToNat, reduceCtorEq, eq_self, beq_self_eq_true, f0]
          · simp -dsimp (maxSteps := 2000000) (disch := first | omega | ((repeat (first | rw [sz_drew] | rw [World.size_alloc] | rw [World.size_setCell] | rw [setCells_cons] | rw [setCells_nil])); first | done | omega) | fail) only [push_cast, ↓upd_at, ↓reduceIte, Nat.reduceEqDiff, Nat.reduceAdd, Nat.reduceMul, Nat.reduceSub, Nat.reduceLeDiff, Int.reduceToNat, reduceCtorEq, eq_self, beq_self_eq_true, f1]
          · simp -dsimp (maxSteps := 2000000) (disch := first | omega | ((repeat (first | rw [sz_drew] | rw [World.size_alloc] | rw [World.size_setCell] | rw [setCells_cons] | rw [setCells_nil])); first | done | omega) | fail) only [push_cast, ↓upd_at, ↓reduceIte, Nat.reduceEqDiff, Nat.reduceAdd, Nat.reduceMul, Nat.reduceSub, Nat.reduceLeDiff, Int.reduceToNat, reduceCtorEq, eq_self, beq_self_eq_true, f5]
          · simp -dsimp (maxSteps := 2000000) (disch := first | omega | ((repeat (first | rw [sz_drew] | rw [World.size_alloc] | rw [World.size_setCell] | rw [setCells_cons] | rw [setCells_nil])); first | done | omega) | fail) only [push_cast, ↓upd_at, ↓reduceIte, Nat.reduceEqDiff, Nat.reduceAdd, Nat.reduceMul, Nat.reduceSub, Nat.reduceLeDiff, Int.reduceToNat, reduceCtorEq, eq_self, beq_self_eq_true, f7]
          · simp -dsimp (maxSteps := 2000000) (disch := first | omega | ((repeat (first | rw [sz_drew] | rw [World.size_alloc] | rw [World.size_setCell] | rw [setCells_cons] | rw [setCells_nil])); first | done | omega) | fail) only [push_cast, ↓upd_at, ↓reduceIte, Nat.reduceEqDiff, Nat.reduceAdd, Nat.reduceMul, Nat.reduceSub, Nat.reduceLeDiff, Int.reduceToNat, reduceCtorEq, eq_self, beq_self_eq_true, f32]
          · simp -dsimp (maxSteps := 2000000) (disch := first | omega | ((repeat (first | rw [sz_drew] | rw [World.size_alloc] | rw [World.size_setCell] | rw [setCells_cons] | rw [setCells_nil])); first | done | omega) | fail) only [push_cast, ↓upd_at, ↓reduceIte, Nat.reduceEqDiff, Nat.reduceAdd, Nat.reduceMul, Nat.reduceSub, Nat.reduceLeDiff, Int.reduceToNat, reduceCtorEq, eq_self, beq_self_eq_true, f33]
          · simp -dsimp (maxSteps := 2000000) (disch := first | omega | ((repeat (first | rw [sz_drew] | rw [World.size_alloc] | rw [World.size_setCell] | rw [setCells_cons] | rw [setCells_nil])); first | done | omega) | fail) only [push_cast, ↓upd_at, ↓reduceIte, Nat.reduceEqDiff, Nat.reduceAdd, Nat.reduceMul, Nat.reduceSub, Nat.reduceLeDiff, Int.reduceToNat, reduceCtorEq, eq_self, beq_self_eq_true, f34]
          · simp -dsimp (maxSteps := 2000000) (disch := first | omega | ((repeat (first | rw [sz_drew] | rw [World.size_alloc] | rw [World.size_setCell] | rw [setCells_cons] | rw [setCells_nil])); first | done | omega) | fail) only [push_cast, ↓upd_at, ↓reduceIte, Nat.reduceEqDiff, Nat.reduceAdd, Nat.reduceMul, Nat.reduceSub, Nat.reduceLeDiff, Int.reduceToNat, reduceCtorEq, eq_self, beq_self_eq_true, f8]
          · simp -dsimp (maxSteps := 2000000) (disch := first | omega | ((repeat (first | rw [sz_drew] | rw [World.size_alloc] | rw [World.size_setCell] | rw [setCells_cons] | rw [setCells_nil])); first | done | omega) | fail) only [push_cast, ↓upd_at, ↓reduceIte, Nat.reduceEqDiff, Nat.reduceAdd, Nat.reduceMul, Nat.reduceSub, Nat.reduceLeDiff, Int.reduceToNat, reduceCtorEq, eq_self, beq_self_eq_true, f9]
          · simp -dsimp (maxSteps := 2000000) (disch := first | omega | ((repeat (first | rw [sz_drew] | rw [World.size_alloc] | rw [World.size_setCell] | rw [setCells_cons] | rw [setCells_nil])); first | done | omega) | fail) only [push_cast, ↓upd_at, ↓reduceIte, Nat.reduceEqDiff, Nat.reduceAdd, Nat.reduceMul, Nat.reduceSub, Nat.reduceLeDiff, Int.reduceToNat, reduceCtorEq, eq_self, beq_self_eq_true, hwj]
          · intro c hc
            rw [List.take_succ_eq_append_getElem hj'] at hc
            rcases List.mem_append.1 hc with hc | hc
            · exact hns c hc
            · simp at hc; subst hc; simpa using h7
      · have hj' : j = f.length := by have : ¬ j < f.length := by simpa using h6
                                      omega
        subst hj'
        rw [List.take_length] at hns
        have hsz : 0 < 1 := by omega
        repeat (first | refine Wp.seq ?_ | refine Wp.block ?_ | refine Wp.condT rfl ?_ | refine Wp.condF rfl ?_ | ((first | refine Wp.region rfl ?_ | refine Wp.skip ?_ | refine Wp.ret ?_ | refine Wp.exit ?_); simp -dsimp (maxSteps := 2000000) (disch := first | omega | ((repeat (first | rw [sz_drew] | rw [World.size_alloc] | rw [World.size_setCell] | rw [setCells_cons] | rw [setCells_nil])); first | done | omega) | fail) only [push_cast, ↓upd_at, ↓reduceIte, Nat.reduceEqDiff, Nat.reduceAdd, Nat.reduceMul, Nat.reduceSub, Nat.reduceLeDiff, Int.reduceToNat, reduceCtorEq, eq_self, beq_self_eq_true, f0, f1, f5, f7, f32, f33, f34, f8, f9, f10, h6, hwr]) | refine And.intro (by first | omega | (simp only [List.length_append, List.length_cons, List.length_nil]; omega)) ?_)
        refine V_str 63 9 _ rfl se_63 ik_5 isStr_9 [c0] rfl rfl (.inr ⟨_, _, rfl, fun j hj => ?_⟩) ?_
        · obtain rfl : j = 0 := by simp at hj; omega
          simp -dsimp (maxSteps := 2000000) (disch := first | omega | ((repeat (first | rw [sz_drew] | rw [World.size_alloc] | rw [World.size_setCell] | rw [setCells_cons] | rw [setCells_nil])); first | done | omega) | fail) only [push_cast, ↓upd_at, ↓reduceIte, Nat.reduceEqDiff, Nat.reduceAdd, Nat.reduceMul, Nat.reduceSub, Nat.reduceLeDiff, Int.reduceToNat, reduceCtorEq, eq_self, beq_self_eq_true]
          rfl
        try (simp -dsimp (maxSteps := 2000000) (disch := first | omega | ((repeat (first | rw [sz_drew] | rw [World.size_alloc] | rw [World.size_setCell] | rw [setCells_cons] | rw [setCells_nil])); first | done | omega) | fail) only [push_cast, ↓upd_at, ↓reduceIte, Nat.reduceEqDiff, Nat.reduceAdd, Nat.reduceMul, Nat.reduceSub, Nat.reduceLeDiff, Int.reduceToNat, reduceCtorEq, eq_self, beq_self_eq_true, f0, f1, f5, f7, f32, f33, f34, f8, f9, f10, hwr])
        repeat (first | refine Wp.seq ?_ | refine Wp.block ?_ | refine Wp.condT rfl ?_ | refine Wp.condF rfl ?_ | ((first | refine Wp.region rfl ?_ | refine Wp.skip ?_ | refine Wp.ret ?_ | refine Wp.exit ?_); simp -dsimp (maxSteps := 2000000) (disch := first | omega | ((repeat (first | rw [sz_drew] | rw [World.size_alloc] | rw [World.size_setCell] | rw [setCells_cons] | rw [setCells_nil])); first | done | omega) | fail) only [push_cast, ↓upd_at, ↓reduceIte, Nat.reduceEqDiff, Nat.reduceAdd, Nat.reduceMul, Nat.reduceSub, Nat.reduceLeDiff, Int.reduceToNat, reduceCtorEq, eq_self, beq_self_eq_true, f0, f1, f5, f7, f32, f33, f34, f8, f9, f10, hwr]) | refine And.intro (by first | omega | (simp only [List.length_append, List.length_cons, List.length_nil]; omega)) ?_)
        refine CallV.of isCall_38 (set_any (hrec.Kp ((Kp.refl _ _).alloc _)) ((k + 1 : Nat) : Int) (by omega) (by simp; omega) f [c0] (fun y hy => by have := hlen y hy; omega) (by omega) (by simp)) ?_
        intro e w5 hp
        rw [if_neg (by omega)] at hp
        obtain ⟨rfl, hrec2, hks⟩ := hp
        rw [Int.toNat_natCast, hset] at hrec2
        try (simp -dsimp (maxSteps := 2000000) (disch := first | omega | ((repeat (first | rw [sz_drew] | rw [World.size_alloc] | rw [World.size_setCell] | rw [setCells_cons] | rw [setCells_nil])); first | done | omega) | fail) only [push_cast, ↓upd_at, ↓reduceIte, Nat.reduceEqDiff, Nat.reduceAdd, Nat.reduceMul, Nat.reduceSub, Nat.reduceLeDiff, Int.reduceToNat, reduceCtorEq, eq_self, beq_self_eq_true, f0, f1, f5, f7, f32, f33, f34, f8, f9, f10, hwr])
        repeat (first | refine Wp.seq ?_ | refine Wp.block ?_ | refine Wp.condT rfl ?_ | refine Wp.condF rfl ?_ | ((first | refine Wp.region rfl ?_ | refine Wp.skip ?_ | refine Wp.ret ?_ | refine Wp.exit ?_); simp -dsimp (maxSteps := 2000000) (disch := first | omega | ((repeat (first | rw [sz_drew] | rw [World.size_alloc] | rw [World.size_setCell] | rw [setCells_cons] | rw [setCells_nil])); first | done | omega) | fail) only [push_cast, ↓upd_at, ↓reduceIte, Nat.reduceEqDiff, Nat.reduceAdd, Nat.reduceMul, Nat.reduceSub, Nat.reduceLeDiff, Int.reduceToNat, reduceCtorEq, eq_self, beq_self_eq_true, f0, f1, f5, f7, f32, f33, f34, f8, f9, f10, hwr]) | refine And.intro (by first | omega | (simp only [List.length_append, List.length_cons, List.length_nil]; omega)) ?_)
        refine Again.mk (k + 1) ⟨n + f.length, ?_, ?_, ?_, ?_, ?_, ?_, ?_, by omega, by omega, hrec2, ?_, ?_, ?_⟩ (by omega)
        · simp -dsimp (maxSteps := 2000000) (disch := first | omega | ((repeat (first | rw [sz_drew] | rw [World.size_alloc] | rw [World.size_setCell] | rw [setCells_cons] | rw [setCells_nil])); first | done | omega) | fail) only [push_cast, ↓upd_at, ↓reduceIte, Nat.reduceEqDiff, Nat.reduceAdd, Nat.reduceMul, Nat.reduceSub, Nat.reduceLeDiff, Int.reduceToNat, reduceCtorEq, eq_self, beq_self_eq_true, f0]
        · simp -dsimp (maxSteps := 2000000) (disch := first | omega | ((repeat (first | rw [sz_drew] | rw [World.size_alloc] | rw [World.size_setCell] | rw [setCells_cons] | rw [setCells_nil])); first | done | omega) | fail) only [push_cast, ↓upd_at, ↓reduceIte, Nat.reduceEqDiff, Nat.reduceAdd, Nat.reduceMul, Nat.reduceSub, Nat.reduceLeDiff, Int.reduceToNat, reduceCtorEq, eq_self, beq_self_eq_true, f1]
        · simp -dsimp (maxSteps := 2000000) (disch := first | omega | ((repeat (first | rw [sz_drew] | rw [World.size_alloc] | rw [World.size_setCell] | rw [setCells_cons] | rw [setCells_nil])); first | done | omega) | fail) only [push_cast, ↓upd_at, ↓reduceIte, Nat.reduceEqDiff, Nat.reduceAdd, Nat.reduceMul, Nat.reduceSub, Nat.reduceLeDiff, Int.reduceToNat, reduceCtorEq, eq_self, beq_self_eq_true, f5]
        · simp -dsimp (maxSteps := 2000000) (disch := first | omega | ((repeat (first | rw [sz_drew] | rw [World.size_alloc] | rw [World.size_setCell] | rw [setCells_cons] | rw [setCells_nil])); first | done | omega) | fail) only [push_cast, ↓upd_at, ↓reduceIte, Nat.reduceEqDiff, Nat.reduceAdd, Nat.reduceMul, Nat.reduceSub, Nat.reduceLeDiff, Int.reduceToNat, reduceCtorEq, eq_self, beq_self_eq_true, f7]
        · simp -dsimp (maxSteps := 2000000) (disch := first | omega | ((repeat (first | rw [sz_drew] | rw [World.size_alloc] | rw [World.size_setCell] | rw [setCells_cons] | rw [setCells_nil])); first | done | omega) | fail) only [push_cast, ↓upd_at, ↓reduceIte, Nat.reduceEqDiff, Nat.reduceAdd, Nat.reduceMul, Nat.reduceSub, Nat.reduceLeDiff, Int.reduceToNat, reduceCtorEq, eq_self, beq_self_eq_true, f32]
        · simp -dsimp (maxSteps := 2000000) (disch := first | omega | ((repeat (first | rw [sz_drew] | rw [World.size_alloc] | rw [World.size_setCell] | rw [setCells_cons] | rw [setCells_nil])); first | done | omega) | fail) only [push_cast, ↓upd_at, ↓reduceIte, Nat.reduceEqDiff, Nat.reduceAdd, Nat.reduceMul, Nat.reduceSub, Nat.reduceLeDiff, Int.reduceToNat, reduceCtorEq, eq_self, beq_self_eq_true, f33]
        · simp -dsimp (maxSteps := 2000000) (disch := first | omega | ((repeat (first | rw [sz_drew] | rw [World.size_alloc] | rw [World.size_setCell] | rw [setCells_cons] | rw [setCells_nil])); first | done | omega) | fail) only [push_cast, ↓upd_at, ↓reduceIte, Nat.reduceEqDiff, Nat.reduceAdd, Nat.reduceMul, Nat.reduceSub, Nat.reduceLeDiff, Int.reduceToNat, reduceCtorEq, eq_self, beq_self_eq_true, hwr]
        · exact ((hkp.alloc _)).trans' hks (fun i hi he => by have := hk1.size; omega)
        · rw [htk]; intro y hy
          rcases List.mem_append.1 hy with hy | hy
          · exact hlen y hy
          · simp at hy; subst hy; omega
        · rw [htk]; intro y hy
          rcases List.mem_append.1 hy with hy | hy
          · exact hsep y hy
          · simp at hy; subst hy; exact hns
    · have h5' : decide ((n : Int) + (f.length : Int) > 1000) = true := by simp; omega
      repeat (first | refine Wp.seq ?_ | refine Wp.block ?_ | refine Wp.condT rfl ?_ | refine Wp.condF rfl ?_ | ((first | refine Wp.region rfl ?_ | refine Wp.skip ?_ | refine Wp.ret ?_ | refine Wp.exit ?_); simp -dsimp (maxSteps := 2000000) (disch := first | omega | ((repeat (first | rw [sz_drew] | rw [World.size_alloc] | rw [World.size_setCell] | rw [setCells_cons] | rw [setCells_nil])); first | done | omega) | fail) only [push_cast, ↓upd_at, ↓reduceIte, Nat.reduceEqDiff, Nat.reduceAdd, Nat.reduceMul, Nat.reduceSub, Nat.reduceLeDiff, Int.reduceToNat, reduceCtorEq, eq_self, beq_self_eq_true, f0, f1, f5, f7, f32, f33, f34, h4, e1, h5']) | refine And.intro (by first | omega | (simp only [List.length_append, List.length_cons, List.length_nil]; omega)) ?_)
      exact Ret.mk ⟨rfl, hkp⟩
  · have hk' : k = l.length := by have : ¬ k < l.length := by simpa using h4
                                  omega
    subst hk'
    rw [List.take_length] at hrec hlen hsep
    repeat (first | refine Wp.seq ?_ | refine Wp.block ?_ | refine Wp.condT rfl ?_ | refine Wp.condF rfl ?_ | ((first | refine Wp.region rfl ?_ | refine Wp.skip ?_ | refine Wp.ret ?_ | refine Wp.exit ?_); simp -dsimp (maxSteps := 2000000) (disch := first | omega | ((repeat (first | rw [sz_drew] | rw [World.size_alloc] | rw [World.size_setCell] | rw [setCells_cons] | rw [setCells_nil])); first | done | omega) | fail) only [push_cast, ↓upd_at, ↓reduceIte, Nat.reduceEqDiff, Nat.reduceAdd, Nat.reduceMul, Nat.reduceSub, Nat.reduceLeDiff, Int.reduceToNat, reduceCtorEq, eq_self, beq_self_eq_true, f0, f1, f5, f7, f32, f33, f34, h4]) | refine And.intro (by first | omega | (simp only [List.length_append, List.length_cons, List.length_nil]; omega)) ?_)
    have hjl := join_le l [c0] 1000 1 hlen (by simp)
    generalize hjn : Lib.join l [c0] = jn at *
    have hstr : ∀ (b i : Nat) (W : World), rdc W b i = some (by8 c0) → ∀ j (hj : j < [c0].length), rdc W b (i + j) = some (by8 [c0][j]) := by
      intro b i W h j hj
      obtain rfl : j = 0 := by simp at hj; omega
      exact h
    refine Wp.draw [0, 1, 0, 4, 12, 31, 63, 127, 127, 255, 1023] [1, 3, 4, 5] (.op 0 false false [] <| .op 2 false false [] <| .two 1 3 [] [] (.op 3 true false [] <| .op 4 true false [] <| .op 5 true false [] <| .op 6 false false [] <| .op 7 false false [] <| .op 8 false false [] <| .op 9 false false [] <| .op 10 false false [] <| .nil) (.two 1 4 [] [] (.op 4 true false [] <| .op 5 true false [] <| .op 6 false false [] <| .op 7 false false [] <| .op 8 false false [] <| .op 9 false false [] <| .op 10 false false [] <| .nil) (.op 1 true false [] <| .op 5 true false [] <| .op 6 false false [] <| .op 7 false false [] <| .op 8 false false [] <| .op 9 false false [] <| .op 10 false false [] <| .nil))) mixed (by kernel_rfl) ?_
    simp -dsimp (maxSteps := 2000000) (disch := first | omega | ((repeat (first | rw [sz_drew] | rw [World.size_alloc] | rw [World.size_setCell] | rw [setCells_cons] | rw [setCells_nil])); first | done | omega) | fail) only [push_cast, ↓upd_at, ↓reduceIte, Nat.reduceEqDiff, Nat.reduceAdd, Nat.reduceMul, Nat.reduceSub, Nat.reduceLeDiff, Int.reduceToNat, reduceCtorEq, eq_self, beq_self_eq_true, f0, f1, f5]
    refine ⟨?_, ?_⟩
    · refine CallV.of isCall_39 (line_any (hrec.Kp ((Kp.refl _ _).drew))) ?_
      rintro _ _ ⟨rfl, rfl⟩
      try (simp -dsimp (maxSteps := 2000000) (disch := first | omega | ((repeat (first | rw [sz_drew] | rw [World.size_alloc] | rw [World.size_setCell] | rw [setCells_cons] | rw [setCells_nil])); first | done | omega) | fail) only [push_cast, ↓upd_at, ↓reduceIte, Nat.reduceEqDiff, Nat.reduceAdd, Nat.reduceMul, Nat.reduceSub, Nat.reduceLeDiff, Int.reduceToNat, reduceCtorEq, eq_self, beq_self_eq_true, f0, f1, f5])
      repeat (first | refine Wp.seq ?_ | refine Wp.block ?_ | refine Wp.condT rfl ?_ | refine Wp.condF rfl ?_ | ((first | refine Wp.region rfl ?_ | refine Wp.skip ?_ | refine Wp.ret ?_ | refine Wp.exit ?_); simp -dsimp (maxSteps := 2000000) (disch := first | omega | ((repeat (first | rw [sz_drew] | rw [World.size_alloc] | rw [World.size_setCell] | rw [setCells_cons] | rw [setCells_nil])); first | done | omega) | fail) only [push_cast, ↓upd_at, ↓reduceIte, Nat.reduceEqDiff, Nat.reduceAdd, Nat.reduceMul, Nat.reduceSub, Nat.reduceLeDiff, Int.reduceToNat, reduceCtorEq, eq_self, beq_self_eq_true, f0, f1, f5]) | refine And.intro (by first | omega | (simp only [List.length_append, List.length_cons, List.length_nil]; omega)) ?_)
      refine V_str 63 9 _ rfl se_63 ik_5 isStr_9 [c0] rfl rfl (.inr ⟨_, _, rfl, hstr _ _ _ ?_⟩) ?_
      · simp -dsimp (maxSteps := 2000000) (disch := first | omega | ((repeat (first | rw [sz_drew] | rw [World.size_alloc] | rw [World.size_setCell] | rw [setCells_cons] | rw [setCells_nil])); first | done | omega) | fail) only [push_cast, ↓upd_at, ↓reduceIte, Nat.reduceEqDiff, Nat.reduceAdd, Nat.reduceMul, Nat.reduceSub, Nat.reduceLeDiff, Int.reduceToNat, reduceCtorEq, eq_self, beq_self_eq_true]
        rfl
      try (simp -dsimp (maxSteps := 2000000) (disch := first | omega | ((repeat (first | rw [sz_drew] | rw [World.size_alloc] | rw [World.size_setCell] | rw [setCells_cons] | rw [setCells_nil])); first | done | omega) | fail) only [push_cast, ↓upd_at, ↓reduceIte, Nat.reduceEqDiff, Nat.reduceAdd, Nat.reduceMul, Nat.reduceSub, Nat.reduceLeDiff, Int.reduceToNat, reduceCtorEq, eq_self, beq_self_eq_true, f0, f1, f5])
      repeat (first | refine Wp.seq ?_ | refine Wp.block ?_ | refine Wp.condT rfl ?_ | refine Wp.condF rfl ?_ | ((first | refine Wp.region rfl ?_ | refine Wp.skip ?_ | refine Wp.ret ?_ | refine Wp.exit ?_); simp -dsimp (maxSteps := 2000000) (disch := first | omega | ((repeat (first | rw [sz_drew] | rw [World.size_alloc] | rw [World.size_setCell] | rw [setCells_cons] | rw [setCells_nil])); first | done | omega) | fail) only [push_cast, ↓upd_at, ↓reduceIte, Nat.reduceEqDiff, Nat.reduceAdd, Nat.reduceMul, Nat.reduceSub, Nat.reduceLeDiff, Int.reduceToNat, reduceCtorEq, eq_self, beq_self_eq_true, f0, f1, f5]) | refine And.intro (by first | omega | (simp only [List.length_append, List.length_cons, List.length_nil]; omega)) ?_)
      refine CallV.of isCall_34 (split_byte jn c0 false _ (by have := Nat.mul_le_mul_right (1000 + 1) h1'; omega) h3') ?_
      rintro _ w6 ⟨A2, c2, rfl, ho2, hk6⟩
      have hrec6 := (hrec.Kp (((Kp.refl _ w3).drew).alloc _)).Kp hk6
      have hkp6 := (((hkp.drew).alloc _)).trans hk6
      obtain ⟨b, o, rfl, hb, hrd⟩ := hx.form h2'
      have hlp : 0 < l.length := by cases l with | nil => exact absurd rfl h2' | cons x r => simp
      have e0 : rdc w6 b o = some (.string (B l[0])) := by rw [hkp6.rdc hb id]; have := hrd 0 _ (List.getElem?_eq_getElem hlp); rwa [Nat.add_zero] at this
      by_cases hone : l.length = 1 ∧ l.head? = some []
      · have ha : ((l.length : Int) == 1) = true := by rw [hone.1]; rfl
        have hz : l[0] = [] := by have := hone.2; rw [List.head?_eq_getElem?, List.getElem?_eq_getElem hlp] at this; simpa using this
        have hl1 : l = [[]] := by
          refine List.ext_getElem? fun i => ?_
          rcases Nat.eq_zero_or_pos i with rfl | hi
          · rw [List.getElem?_eq_getElem hlp, hz]; rfl
          · rw [List.getElem?_eq_none (by omega), List.getElem?_eq_none (by simp; omega)]
        have hby : bysep (cutp c0 false) jn = [] := by rw [← hjn, hl1]; rfl
        rw [hz] at e0
        rw [hby] at ho2
        rw [hby]
        have h00 : ((0 : Int) == 0) = true := rfl
        have hz0 : ((0 : Nat) : Int) = 0 := rfl
        try (simp -dsimp (maxSteps := 2000000) (disch := first | omega | ((repeat (first | rw [sz_drew] | rw [World.size_alloc] | rw [World.size_setCell] | rw [setCells_cons] | rw [setCells_nil])); first | done | omega) | fail) only [push_cast, ↓upd_at, ↓reduceIte, Nat.reduceEqDiff, Nat.reduceAdd, Nat.reduceMul, Nat.reduceSub, Nat.reduceLeDiff, Int.reduceToNat, reduceCtorEq, eq_self, beq_self_eq_true, f0, f1, f5, ha, e0, h00, hz0])
        repeat (first | refine Wp.seq ?_ | refine Wp.block ?_ | refine Wp.condT rfl ?_ | refine Wp.condF rfl ?_ | ((first | refine Wp.region rfl ?_ | refine Wp.skip ?_ | refine Wp.ret ?_ | refine Wp.exit ?_); simp -dsimp (maxSteps := 2000000) (disch := first | omega | ((repeat (first | rw [sz_drew] | rw [World.size_alloc] | rw [World.size_setCell] | rw [setCells_cons] | rw [setCells_nil])); first | done | omega) | fail) only [push_cast, ↓upd_at, ↓reduceIte, Nat.reduceEqDiff, Nat.reduceAdd, Nat.reduceMul, Nat.reduceSub, Nat.reduceLeDiff, Int.reduceToNat, reduceCtorEq, eq_self, beq_self_eq_true, f0, f1, f5, ha, e0, h00, hz0]) | refine And.intro (by first | omega | (simp only [List.length_append, List.length_cons, List.length_nil]; omega)) ?_)
        exact Ret.mk ⟨rfl, hkp6⟩
      · have hby : bysep (cutp c0 false) jn = l := by rw [← hjn]; exact bysep_join c0 l h2' hone hsep
        rw [hby] at ho2
        rw [hby]
        rcases Bool.eq_false_or_eq_true ((l.length : Int) == 1) with ha | ha
        · have hz : (l[0] == []) = false := by
            simp at ha ⊢
            intro hz
            exact hone ⟨by omega, by rw [List.head?_eq_getElem?, List.getElem?_eq_getElem hlp, hz]⟩
          try (simp -dsimp (maxSteps := 2000000) (disch := first | omega | ((repeat (first | rw [sz_drew] | rw [World.size_alloc] | rw [World.size_setCell] | rw [setCells_cons] | rw [setCells_nil])); first | done | omega) | fail) only [push_cast, ↓upd_at, ↓reduceIte, Nat.reduceEqDiff, Nat.reduceAdd, Nat.reduceMul, Nat.reduceSub, Nat.reduceLeDiff, Int.reduceToNat, reduceCtorEq, eq_self, beq_self_eq_true, f0, f1, f5, ha, e0, hz])
          repeat (first | refine Wp.seq ?_ | refine Wp.block ?_ | refine Wp.condT rfl ?_ | refine Wp.condF rfl ?_ | ((first | refine Wp.region rfl ?_ | refine Wp.skip ?_ | refine Wp.ret ?_ | refine Wp.exit ?_); simp -dsimp (maxSteps := 2000000) (disch := first | omega | ((repeat (first | rw [sz_drew] | rw [World.size_alloc] | rw [World.size_setCell] | rw [setCells_cons] | rw [setCells_nil])); first | done | omega) | fail) only [push_cast, ↓upd_at, ↓reduceIte, Nat.reduceEqDiff, Nat.reduceAdd, Nat.reduceMul, Nat.reduceSub, Nat.reduceLeDiff, Int.reduceToNat, reduceCtorEq, eq_self, beq_self_eq_true, f0, f1, f5, ha, e0, hz]) | refine And.intro (by first | omega | (simp only [List.length_append, List.length_cons, List.length_nil]; omega)) ?_)
          refine CallV.of isCall_36 (same_any ho2.Txt (hx.Kp hkp6 (fun _ _ => id)) (by omega) (by omega)) ?_
          rintro _ w7 ⟨rfl, hk7⟩
          have hdd : decide (l = l) = true := by simp
          rw [hdd]
          try (simp -dsimp (maxSteps := 2000000) (disch := first | omega | ((repeat (first | rw [sz_drew] | rw [World.size_alloc] | rw [World.size_setCell] | rw [setCells_cons] | rw [setCells_nil])); first | done | omega) | fail) only [push_cast, ↓upd_at, ↓reduceIte, Nat.reduceEqDiff, Nat.reduceAdd, Nat.reduceMul, Nat.reduceSub, Nat.reduceLeDiff, Int.reduceToNat, reduceCtorEq, eq_self, beq_self_eq_true, f0, f1, f5, ha, e0, hz])
          repeat (first | refine Wp.seq ?_ | refine Wp.block ?_ | refine Wp.condT rfl ?_ | refine Wp.condF rfl ?_ | ((first | refine Wp.region rfl ?_ | refine Wp.skip ?_ | refine Wp.ret ?_ | refine Wp.exit ?_); simp -dsimp (maxSteps := 2000000) (disch := first | omega | ((repeat (first | rw [sz_drew] | rw [World.size_alloc] | rw [World.size_setCell] | rw [setCells_cons] | rw [setCells_nil])); first | done | omega) | fail) only [push_cast, ↓upd_at, ↓reduceIte, Nat.reduceEqDiff, Nat.reduceAdd, Nat.reduceMul, Nat.reduceSub, Nat.reduceLeDiff, Int.reduceToNat, reduceCtorEq, eq_self, beq_self_eq_true, f0, f1, f5, ha, e0, hz]) | refine And.intro (by first | omega | (simp only [List.length_append, List.length_cons, List.length_nil]; omega)) ?_)
          refine CallV.of isCall_40 (nf_any (hrec6.Kp hk7)) ?_
          rintro _ _ ⟨rfl, rfl⟩
          try (simp -dsimp (maxSteps := 2000000) (disch := first | omega | ((repeat (first | rw [sz_drew] | rw [World.size_alloc] | rw [World.size_setCell] | rw [setCells_cons] | rw [setCells_nil])); first | done | omega) | fail) only [push_cast, ↓upd_at, ↓reduceIte, Nat.reduceEqDiff, Nat.reduceAdd, Nat.reduceMul, Nat.reduceSub, Nat.reduceLeDiff, Int.reduceToNat, reduceCtorEq, eq_self, beq_self_eq_true, f0, f1, f5])
          repeat (first | refine Wp.seq ?_ | refine Wp.block ?_ | refine Wp.condT rfl ?_ | refine Wp.condF rfl ?_ | ((first | refine Wp.region rfl ?_ | refine Wp.skip ?_ | refine Wp.ret ?_ | refine Wp.exit ?_); simp -dsimp (maxSteps := 2000000) (disch := first | omega | ((repeat (first | rw [sz_drew] | rw [World.size_alloc] | rw [World.size_setCell] | rw [setCells_cons] | rw [setCells_nil])); first | done | omega) | fail) only [push_cast, ↓upd_at, ↓reduceIte, Nat.reduceEqDiff, Nat.reduceAdd, Nat.reduceMul, Nat.reduceSub, Nat.reduceLeDiff, Int.reduceToNat, reduceCtorEq, eq_self, beq_self_eq_true, f0, f1, f5]) | refine And.intro (by first | omega | (simp only [List.length_append, List.length_cons, List.length_nil]; omega)) ?_)
          exact Ret.mk ⟨rfl, hkp6.trans hk7⟩
        · try (simp -dsimp (maxSteps := 2000000) (disch := first | omega | ((repeat (first | rw [sz_drew] | rw [World.size_alloc] | rw [World.size_setCell] | rw [setCells_cons] | rw [setCells_nil])); first | done | omega) | fail) only [push_cast, ↓upd_at, ↓reduceIte, Nat.reduceEqDiff, Nat.reduceAdd, Nat.reduceMul, Nat.reduceSub, Nat.reduceLeDiff, Int.reduceToNat, reduceCtorEq, eq_self, beq_self_eq_true, f0, f1, f5, ha])
          repeat (first | refine Wp.seq ?_ | refine Wp.block ?_ | refine Wp.condT rfl ?_ | refine Wp.condF rfl ?_ | ((first | refine Wp.region rfl ?_ | refine Wp.skip ?_ | refine Wp.ret ?_ | refine Wp.exit ?_); simp -dsimp (maxSteps := 2000000) (disch := first | omega | ((repeat (first | rw [sz_drew] | rw [World.size_alloc] | rw [World.size_setCell] | rw [setCells_cons] | rw [setCells_nil])); first | done | omega) | fail) only [push_cast, ↓upd_at, ↓reduceIte, Nat.reduceEqDiff, Nat.reduceAdd, Nat.reduceMul, Nat.reduceSub, Nat.reduceLeDiff, Int.reduceToNat, reduceCtorEq, eq_self, beq_self_eq_true, f0, f1, f5, ha]) | refine And.intro (by first | omega | (simp only [List.length_append, List.length_cons, List.length_nil]; omega)) ?_)
          refine CallV.of isCall_36 (same_any ho2.Txt (hx.Kp hkp6 (fun _ _ => id)) (by omega) (by omega)) ?_
          rintro _ w7 ⟨rfl, hk7⟩
          have hdd : decide (l = l) = true := by simp
          rw [hdd]
          try (simp -dsimp (maxSteps := 2000000) (disch := first | omega | ((repeat (first | rw [sz_drew] | rw [World.size_alloc] | rw [World.size_setCell] | rw [setCells_cons] | rw [setCells_nil])); first | done | omega) | fail) only [push_cast, ↓upd_at, ↓reduceIte, Nat.reduceEqDiff, Nat.reduceAdd, Nat.reduceMul, Nat.reduceSub, Nat.reduceLeDiff, Int.reduceToNat, reduceCtorEq, eq_self, beq_self_eq_true, f0, f1, f5, ha])
          repeat (first | refine Wp.seq ?_ | refine Wp.block ?_ | refine Wp.condT rfl ?_ | refine Wp.condF rfl ?_ | ((first | refine Wp.region rfl ?_ | refine Wp.skip ?_ | refine Wp.ret ?_ | refine Wp.exit ?_); simp -dsimp (maxSteps := 2000000) (disch := first | omega | ((repeat (first | rw [sz_drew] | rw [World.size_alloc] | rw [World.size_setCell] | rw [setCells_cons] | rw [setCells_nil])); first | done | omega) | fail) only [push_cast, ↓upd_at, ↓reduceIte, Nat.reduceEqDiff, Nat.reduceAdd, Nat.reduceMul, Nat.reduceSub, Nat.reduceLeDiff, Int.reduceToNat, reduceCtorEq, eq_self, beq_self_eq_true, f0, f1, f5, ha]) | refine And.intro (by first | omega | (simp only [List.length_append, List.length_cons, List.length_nil]; omega)) ?_)
          refine CallV.of isCall_40 (nf_any (hrec6.Kp hk7)) ?_
          rintro _ _ ⟨rfl, rfl⟩
          try (simp -dsimp (maxSteps := 2000000) (disch := first | omega | ((repeat (first | rw [sz_drew] | rw [World.size_alloc] | rw [World.size_setCell] | rw [setCells_cons] | rw [setCells_nil])); first | done | omega) | fail) only [push_cast, ↓upd_at, ↓reduceIte, Nat.reduceEqDiff, Nat.reduceAdd, Nat.reduceMul, Nat.reduceSub, Nat.reduceLeDiff, Int.reduceToNat, reduceCtorEq, eq_self, beq_self_eq_true, f0, f1, f5])
          repeat (first | refine Wp.seq ?_ | refine Wp.block ?_ | refine Wp.condT rfl ?_ | refine Wp.condF rfl ?_ | ((first | refine Wp.region rfl ?_ | refine Wp.skip ?_ | refine Wp.ret ?_ | refine Wp.exit ?_); simp -dsimp (maxSteps := 2000000) (disch := first | omega | ((repeat (first | rw [sz_drew] | rw [World.size_alloc] | rw [World.size_setCell] | rw [setCells_cons] | rw [setCells_nil])); first | done | omega) | fail) only [push_cast, ↓upd_at, ↓reduceIte, Nat.reduceEqDiff, Nat.reduceAdd, Nat.reduceMul, Nat.reduceSub, Nat.reduceLeDiff, Int.reduceToNat, reduceCtorEq, eq_self, beq_self_eq_true, f0, f1, f5]) | refine And.intro (by first | omega | (simp only [List.length_append, List.length_cons, List.length_nil]; omega)) ?_)
          exact Ret.mk ⟨rfl, hkp6.trans hk7⟩
    · refine ⟨?_, ?_⟩
      · refine CallV.of isCall_39 (line_any (hrec.Kp (((Kp.refl _ _).drew).alloc _))) ?_
        rintro _ _ ⟨rfl, rfl⟩
        try (simp -dsimp (maxSteps := 2000000) (disch := first | omega | ((repeat (first | rw [sz_drew] | rw [World.size_alloc] | rw [World.size_setCell] | rw [setCells_cons] | rw [setCells_nil])); first | done | omega) | fail) only [push_cast, ↓upd_at, ↓reduceIte, Nat.reduceEqDiff, Nat.reduceAdd, Nat.reduceMul, Nat.reduceSub, Nat.reduceLeDiff, Int.reduceToNat, reduceCtorEq, eq_self, beq_self_eq_true, f0, f1, f5])
        repeat (first | refine Wp.seq ?_ | refine Wp.block ?_ | refine Wp.condT rfl ?_ | refine Wp.condF rfl ?_ | ((first | refine Wp.region rfl ?_ | refine Wp.skip ?_ | refine Wp.ret ?_ | refine Wp.exit ?_); simp -dsimp (maxSteps := 2000000) (disch := first | omega | ((repeat (first | rw [sz_drew] | rw [World.size_alloc] | rw [World.size_setCell] | rw [setCells_cons] | rw [setCells_nil])); first | done | omega) | fail) only [push_cast, ↓upd_at, ↓reduceIte, Nat.reduceEqDiff, Nat.reduceAdd, Nat.reduceMul, Nat.reduceSub, Nat.reduceLeDiff, Int.reduceToNat, reduceCtorEq, eq_self, beq_self_eq_true, f0, f1, f5]) | refine And.intro (by first | omega | (simp only [List.length_append, List.length_cons, List.length_nil]; omega)) ?_)
        refine V_str 63 9 _ rfl se_63 ik_5 isStr_9 [c0] rfl rfl (.inr ⟨_, _, rfl, hstr _ _ _ ?_⟩) ?_
        · simp -dsimp (maxSteps := 2000000) (disch := first | omega | ((repeat (first | rw [sz_drew] | rw [World.size_alloc] | rw [World.size_setCell] | rw [setCells_cons] | rw [setCells_nil])); first | done | omega) | fail) only [push_cast, ↓upd_at, ↓reduceIte, Nat.reduceEqDiff, Nat.reduceAdd, Nat.reduceMul, Nat.reduceSub, Nat.reduceLeDiff, Int.reduceToNat, reduceCtorEq, eq_self, beq_self_eq_true]
          rfl
        try (simp -dsimp (maxSteps := 2000000) (disch := first | omega | ((repeat (first | rw [sz_drew] | rw [World.size_alloc] | rw [World.size_setCell] | rw [setCells_cons] | rw [setCells_nil])); first | done | omega) | fail) only [push_cast, ↓upd_at, ↓reduceIte, Nat.reduceEqDiff, Nat.reduceAdd, Nat.reduceMul, Nat.reduceSub, Nat.reduceLeDiff, Int.reduceToNat, reduceCtorEq, eq_self, beq_self_eq_true, f0, f1, f5])
        repeat (first | refine Wp.seq ?_ | refine Wp.block ?_ | refine Wp.condT rfl ?_ | refine Wp.condF rfl ?_ | ((first | refine Wp.region rfl ?_ | refine Wp.skip ?_ | refine Wp.ret ?_ | refine Wp.exit ?_); simp -dsimp (maxSteps := 2000000) (disch := first | omega | ((repeat (first | rw [sz_drew] | rw [World.size_alloc] | rw [World.size_setCell] | rw [setCells_cons] | rw [setCells_nil])); first | done | omega) | fail) only [push_cast, ↓upd_at, ↓reduceIte, Nat.reduceEqDiff, Nat.reduceAdd, Nat.reduceMul, Nat.reduceSub, Nat.reduceLeDiff, Int.reduceToNat, reduceCtorEq, eq_self, beq_self_eq_true, f0, f1, f5]) | refine And.intro (by first | omega | (simp only [List.length_append, List.length_cons, List.length_nil]; omega)) ?_)
        refine CallV.of isCall_34 (split_byte jn c0 false _ (by have := Nat.mul_le_mul_right (1000 + 1) h1'; omega) h3') ?_
        rintro _ w6 ⟨A2, c2, rfl, ho2, hk6⟩
        have hrec6 := (hrec.Kp (((Kp.refl _ w3).drew).alloc _)).Kp hk6
        have hkp6 := (((hkp.drew).alloc _)).trans hk6
        obtain ⟨b, o, rfl, hb, hrd⟩ := hx.form h2'
        have hlp : 0 < l.length := by cases l with | nil => exact absurd rfl h2' | cons x r => simp
        have e0 : rdc w6 b o = some (.string (B l[0])) := by rw [hkp6.rdc hb id]; have := hrd 0 _ (List.getElem?_eq_getElem hlp); rwa [Nat.add_zero] at this
        by_cases hone : l.length = 1 ∧ l.head? = some []
        · have ha : ((l.length : Int) == 1) = true := by rw [hone.1]; rfl
          have hz : l[0] = [] := by have := hone.2; rw [List.head?_eq_getElem?, List.getElem?_eq_getElem hlp] at this; simpa using this
          have hl1 : l = [[]] := by
            refine List.ext_getElem? fun i => ?_
            rcases Nat.eq_zero_or_pos i with rfl | hi
            · rw [List.getElem?_eq_getElem hlp, hz]; rfl
            · rw [List.getElem?_eq_none (by omega), List.getElem?_eq_none (by simp; omega)]
          have hby : bysep (cutp c0 false) jn = [] := by rw [← hjn, hl1]; rfl
          rw [hz] at e0
          rw [hby] at ho2
          rw [hby]
          have h00 : ((0 : Int) == 0) = true := rfl
          have hz0 : ((0 : Nat) : Int) = 0 := rfl
          try (simp -dsimp (maxSteps := 2000000) (disch := first | omega | ((repeat (first | rw [sz_drew] | rw [World.size_alloc] | rw [World.size_setCell] | rw [setCells_cons] | rw [setCells_nil])); first | done | omega) | fail) only [push_cast, ↓upd_at, ↓reduceIte, Nat.reduceEqDiff, Nat.reduceAdd, Nat.reduceMul, Nat.reduceSub, Nat.reduceLeDiff, Int.reduceToNat, reduceCtorEq, eq_self, beq_self_eq_true, f0, f1, f5, ha, e0, h00, hz0])
          repeat (first | refine Wp.seq ?_ | refine Wp.block ?_ | refine Wp.condT rfl ?_ | refine Wp.condF rfl ?_ | ((first | refine Wp.region rfl ?_ | refine Wp.skip ?_ | refine Wp.ret ?_ | refine Wp.exit ?_); simp -dsimp (maxSteps := 2000000) (disch := first | omega | ((repeat (first | rw [sz_drew] | rw [World.size_alloc] | rw [World.size_setCell] | rw [setCells_cons] | rw [setCells_nil])); first | done | omega) | fail) only [push_cast, ↓upd_at, ↓reduceIte, Nat.reduceEqDiff, Nat.reduceAdd, Nat.reduceMul, Nat.reduceSub, Nat.reduceLeDiff, Int.reduceToNat, reduceCtorEq, eq_self, beq_self_eq_true, f0, f1, f5, ha, e0, h00, hz0]) | refine And.intro (by first | omega | (simp only [List.length_append, List.length_cons, List.length_nil]; omega)) ?_)
          exact Ret.mk ⟨rfl, hkp6⟩
        · have hby : bysep (cutp c0 false) jn = l := by rw [← hjn]; exact bysep_join c0 l h2' hone hsep
          rw [hby] at ho2
          rw [hby]
          rcases Bool.eq_false_or_eq_true ((l.length : Int) == 1) with ha | ha
          · have hz : (l[0] == []) = false := by
              simp at ha ⊢
              intro hz
              exact hone ⟨by omega, by rw [List.head?_eq_getElem?, List.getElem?_eq_getElem hlp, hz]⟩
            try (simp -dsimp (maxSteps := 2000000) (disch := first | omega | ((repeat (first | rw [sz_drew] | rw [World.size_alloc] | rw [World.size_setCell] | rw [setCells_cons] | rw [setCells_nil])); first | done | omega) | fail) only [push_cast, ↓upd_at, ↓reduceIte, Nat.reduceEqDiff, Nat.reduceAdd, Nat.reduceMul, Nat.reduceSub, Nat.reduceLeDiff, Int.reduceToNat, reduceCtorEq, eq_self, beq_self_eq_true, f0, f1, f5, ha, e0, hz])
            repeat (first | refine Wp.seq ?_ | refine Wp.block ?_ | refine Wp.condT rfl ?_ | refine Wp.condF rfl ?_ | ((first | refine Wp.region rfl ?_ | refine Wp.skip ?_ | refine Wp.ret ?_ | refine Wp.exit ?_); simp -dsimp (maxSteps := 2000000) (disch := first | omega | ((repeat (first | rw [sz_drew] | rw [World.size_alloc] | rw [World.size_setCell] | rw [setCells_cons] | rw [setCells_nil])); first | done | omega) | fail) only [push_cast, ↓upd_at, ↓reduceIte, Nat.reduceEqDiff, Nat.reduceAdd, Nat.reduceMul, Nat.reduceSub, Nat.reduceLeDiff, Int.reduceToNat, reduceCtorEq, eq_self, beq_self_eq_true, f0, f1, f5, ha, e0, hz]) | refine And.intro (by first | omega | (simp only [List.length_append, List.length_cons, List.length_nil]; omega)) ?_)
            refine CallV.of isCall_36 (same_any ho2.Txt (hx.Kp hkp6 (fun _ _ => id)) (by omega) (by omega)) ?_
            rintro _ w7 ⟨rfl, hk7⟩
            have hdd : decide (l = l) = true := by simp
            rw [hdd]
            try (simp -dsimp (maxSteps := 2000000) (disch := first | omega | ((repeat (first | rw [sz_drew] | rw [World.size_alloc] | rw [World.size_setCell] | rw [setCells_cons] | rw [setCells_nil])); first | done | omega) | fail) only [push_cast, ↓upd_at, ↓reduceIte, Nat.reduceEqDiff, Nat.reduceAdd, Nat.reduceMul, Nat.reduceSub, Nat.reduceLeDiff, Int.reduceToNat, reduceCtorEq, eq_self, beq_self_eq_true, f0, f1, f5, ha, e0, hz])
            repeat (first | refine Wp.seq ?_ | refine Wp.block ?_ | refine Wp.condT rfl ?_ | refine Wp.condF rfl ?_ | ((first | refine Wp.region rfl ?_ | refine Wp.skip ?_ | refine Wp.ret ?_ | refine Wp.exit ?_); simp -dsimp (maxSteps := 2000000) (disch := first | omega | ((repeat (first | rw [sz_drew] | rw [World.size_alloc] | rw [World.size_setCell] | rw [setCells_cons] | rw [setCells_nil])); first | done | omega) | fail) only [push_cast, ↓upd_at, ↓reduceIte, Nat.reduceEqDiff, Nat.reduceAdd, Nat.reduceMul, Nat.reduceSub, Nat.reduceLeDiff, Int.reduceToNat, reduceCtorEq, eq_self, beq_self_eq_true, f0, f1, f5, ha, e0, hz]) | refine And.intro (by first | omega | (simp only [List.length_append, List.length_cons, List.length_nil]; omega)) ?_)
            refine CallV.of isCall_40 (nf_any (hrec6.Kp hk7)) ?_
            rintro _ _ ⟨rfl, rfl⟩
            try (simp -dsimp (maxSteps := 2000000) (disch := first | omega | ((repeat (first | rw [sz_drew] | rw [World.size_alloc] | rw [World.size_setCell] | rw [setCells_cons] | rw [setCells_nil])); first | done | omega) | fail) only [push_cast, ↓upd_at, ↓reduceIte, Nat.reduceEqDiff, Nat.reduceAdd, Nat.reduceMul, Nat.reduceSub, Nat.reduceLeDiff, Int.reduceToNat, reduceCtorEq, eq_self, beq_self_eq_true, f0, f1, f5])
            repeat (first | refine Wp.seq ?_ | refine Wp.block ?_ | refine Wp.condT rfl ?_ | refine Wp.condF rfl ?_ | ((first | refine Wp.region rfl ?_ | refine Wp.skip ?_ | refine Wp.ret ?_ | refine Wp.exit ?_); simp -dsimp (maxSteps := 2000000) (disch := first | omega | ((repeat (first | rw [sz_drew] | rw [World.size_alloc] | rw [World.size_setCell] | rw [setCells_cons] | rw [setCells_nil])); first | done | omega) | fail) only [push_cast, ↓upd_at, ↓reduceIte, Nat.reduceEqDiff, Nat.reduceAdd, Nat.reduceMul, Nat.reduceSub, Nat.reduceLeDiff, Int.reduceToNat, reduceCtorEq, eq_self, beq_self_eq_true, f0, f1, f5]) | refine And.intro (by first | omega | (simp only [List.length_append, List.length_cons, List.length_nil]; omega)) ?_)
            exact Ret.mk ⟨rfl, hkp6.trans hk7⟩
          · try (simp -dsimp (maxSteps := 2000000) (disch := first | omega | ((repeat (first | rw [sz_drew] | rw [World.size_alloc] | rw [World.size_setCell] | rw [setCells_cons] | rw [setCells_nil])); first | done | omega) | fail) only [push_cast, ↓upd_at, ↓reduceIte, Nat.reduceEqDiff, Nat.reduceAdd, Nat.reduceMul, Nat.reduceSub, Nat.reduceLeDiff, Int.reduceToNat, reduceCtorEq, eq_self, beq_self_eq_true, f0, f1, f5, ha])
            repeat (first | refine Wp.seq ?_ | refine Wp.block ?_ | refine Wp.condT rfl ?_ | refine Wp.condF rfl ?_ | ((first | refine Wp.region rfl ?_ | refine Wp.skip ?_ | refine Wp.ret ?_ | refine Wp.exit ?_); simp -dsimp (maxSteps := 2000000) (disch := first | omega | ((repeat (first | rw [sz_drew] | rw [World.size_alloc] | rw [World.size_setCell] | rw [setCells_cons] | rw [setCells_nil])); first | done | omega) | fail) only [push_cast, ↓upd_at, ↓reduceIte, Nat.reduceEqDiff, Nat.reduceAdd, Nat.reduceMul, Nat.reduceSub, Nat.reduceLeDiff, Int.reduceToNat, reduceCtorEq, eq_self, beq_self_eq_true, f0, f1, f5, ha]) | refine And.intro (by first | omega | (simp only [List.length_append, List.length_cons, List.length_nil]; omega)) ?_)
            refine CallV.of isCall_36 (same_any ho2.Txt (hx.Kp hkp6 (fun _ _ => id)) (by omega) (by omega)) ?_
            rintro _ w7 ⟨rfl, hk7⟩
            have hdd : decide (l = l) = true := by simp
            rw [hdd]
            try (simp -dsimp (maxSteps := 2000000) (disch := first | omega | ((repeat (first | rw [sz_drew] | rw [World.size_alloc] | rw [World.size_setCell] | rw [setCells_cons] | rw [setCells_nil])); first | done | omega) | fail) only [push_cast, ↓upd_at, ↓reduceIte, Nat.reduceEqDiff, Nat.reduceAdd, Nat.reduceMul, Nat.reduceSub, Nat.reduceLeDiff, Int.reduceToNat, reduceCtorEq, eq_self, beq_self_eq_true, f0, f1, f5, ha])
            repeat (first | refine Wp.seq ?_ | refine Wp.block ?_ | refine Wp.condT rfl ?_ | refine Wp.condF rfl ?_ | ((first | refine Wp.region rfl ?_ | refine Wp.skip ?_ | refine Wp.ret ?_ | refine Wp.exit ?_); simp -dsimp (maxSteps := 2000000) (disch := first | omega | ((repeat (first | rw [sz_drew] | rw [World.size_alloc] | rw [World.size_setCell] | rw [setCells_cons] | rw [setCells_nil])); first | done | omega) | fail) only [push_cast, ↓upd_at, ↓reduceIte, Nat.reduceEqDiff, Nat.reduceAdd, Nat.reduceMul, Nat.reduceSub, Nat.reduceLeDiff, Int.reduceToNat, reduceCtorEq, eq_self, beq_self_eq_true, f0, f1, f5, ha]) | refine And.intro (by first | omega | (simp only [List.length_append, List.length_cons, List.length_nil]; omega)) ?_)
            refine CallV.of isCall_40 (nf_any (hrec6.Kp hk7)) ?_
            rintro _ _ ⟨rfl, rfl⟩
            try (simp -dsimp (maxSteps := 2000000) (disch := first | omega | ((repeat (first | rw [sz_drew] | rw [World.size_alloc] | rw [World.size_setCell] | rw [setCells_cons] | rw [setCells_nil])); first | done | omega) | fail) only [push_cast, ↓upd_at, ↓reduceIte, Nat.reduceEqDiff, Nat.reduceAdd, Nat.reduceMul, Nat.reduceSub, Nat.reduceLeDiff, Int.reduceToNat, reduceCtorEq, eq_self, beq_self_eq_true, f0, f1, f5])
            repeat (first | refine Wp.seq ?_ | refine Wp.block ?_ | refine Wp.condT rfl ?_ | refine Wp.condF rfl ?_ | ((first | refine Wp.region rfl ?_ | refine Wp.skip ?_ | refine Wp.ret ?_ | refine Wp.exit ?_); simp -dsimp (maxSteps := 2000000) (disch := first | omega | ((repeat (first | rw [sz_drew] | rw [World.size_alloc] | rw [World.size_setCell] | rw [setCells_cons] | rw [setCells_nil])); first | done | omega) | fail) only [push_cast, ↓upd_at, ↓reduceIte, Nat.reduceEqDiff, Nat.reduceAdd, Nat.reduceMul, Nat.reduceSub, Nat.reduceLeDiff, Int.reduceToNat, reduceCtorEq, eq_self, beq_self_eq_true, f0, f1, f5]) | refine And.intro (by first | omega | (simp only [List.length_append, List.length_cons, List.length_nil]; omega)) ?_)
            exact Ret.mk ⟨rfl, hkp6.trans hk7⟩
      · refine V_str 63 9 _ rfl se_63 ik_5 isStr_9 [c0] rfl rfl (.inr ⟨_, _, rfl, hstr _ _ _ ?_⟩) ?_
        · simp -dsimp (maxSteps := 2000000) (disch := first | omega | ((repeat (first | rw [sz_drew] | rw [World.size_alloc] | rw [World.size_setCell] | rw [setCells_cons] | rw [setCells_nil])); first | done | omega) | fail) only [push_cast, ↓upd_at, ↓reduceIte, Nat.reduceEqDiff, Nat.reduceAdd, Nat.reduceMul, Nat.reduceSub, Nat.reduceLeDiff, Int.reduceToNat, reduceCtorEq, eq_self, beq_self_eq_true]
          rfl
        try (simp -dsimp (maxSteps := 2000000) (disch := first | omega | ((repeat (first | rw [sz_drew] | rw [World.size_alloc] | rw [World.size_setCell] | rw [setCells_cons] | rw [setCells_nil])); first | done | omega) | fail) only [push_cast, ↓upd_at, ↓reduceIte, Nat.reduceEqDiff, Nat.reduceAdd, Nat.reduceMul, Nat.reduceSub, Nat.reduceLeDiff, Int.reduceToNat, reduceCtorEq, eq_self, beq_self_eq_true, f0, f1, f5])
        repeat (first | refine Wp.seq ?_ | refine Wp.block ?_ | refine Wp.condT rfl ?_ | refine Wp.condF rfl ?_ | ((first | refine Wp.region rfl ?_ | refine Wp.skip ?_ | refine Wp.ret ?_ | refine Wp.exit ?_); simp -dsimp (maxSteps := 2000000) (disch := first | omega | ((repeat (first | rw [sz_drew] | rw [World.size_alloc] | rw [World.size_setCell] | rw [setCells_cons] | rw [setCells_nil])); first | done | omega) | fail) only [push_cast, ↓upd_at, ↓reduceIte, Nat.reduceEqDiff, Nat.reduceAdd, Nat.reduceMul, Nat.reduceSub, Nat.reduceLeDiff, Int.reduceToNat, reduceCtorEq, eq_self, beq_self_eq_true, f0, f1, f5]) | refine And.intro (by first | omega | (simp only [List.length_append, List.length_cons, List.length_nil]; omega)) ?_)
        refine CallV.of isCall_39 (line_any (hrec.Kp (((Kp.refl _ _).drew).alloc _))) ?_
        rintro _ _ ⟨rfl, rfl⟩
        try (simp -dsimp (maxSteps := 2000000) (disch := first | omega | ((repeat (first | rw [sz_drew] | rw [World.size_alloc] | rw [World.size_setCell] | rw [setCells_cons] | rw [setCells_nil])); first | done | omega) | fail) only [push_cast, ↓upd_at, ↓reduceIte, Nat.reduceEqDiff, Nat.reduceAdd, Nat.reduceMul, Nat.reduceSub, Nat.reduceLeDiff, Int.reduceToNat, reduceCtorEq, eq_self, beq_self_eq_true, f0, f1, f5])
        repeat (first | refine Wp.seq ?_ | refine Wp.block ?_ | refine Wp.condT rfl ?_ | refine Wp.condF rfl ?_ | ((first | refine Wp.region rfl ?_ | refine Wp.skip ?_ | refine Wp.ret ?_ | refine Wp.exit ?_); simp -dsimp (maxSteps := 2000000) (disch := first | omega | ((repeat (first | rw [sz_drew] | rw [World.size_alloc] | rw [World.size_setCell] | rw [setCells_cons] | rw [setCells_nil])); first | done | omega) | fail) only [push_cast, ↓upd_at, ↓reduceIte, Nat.reduceEqDiff, Nat.reduceAdd, Nat.reduceMul, Nat.reduceSub, Nat.reduceLeDiff, Int.reduceToNat, reduceCtorEq, eq_self, beq_self_eq_true, f0, f1, f5]) | refine And.intro (by first | omega | (simp only [List.length_append, List.length_cons, List.length_nil]; omega)) ?_)
        refine CallV.of isCall_34 (split_byte jn c0 false _ (by have := Nat.mul_le_mul_right (1000 + 1) h1'; omega) h3') ?_
        rintro _ w6 ⟨A2, c2, rfl, ho2, hk6⟩
        have hrec6 := (hrec.Kp (((Kp.refl _ w3).drew).alloc _)).Kp hk6
        have hkp6 := (((hkp.drew).alloc _)).trans hk6
        obtain ⟨b, o, rfl, hb, hrd⟩ := hx.form h2'
        have hlp : 0 < l.length := by cases l with | nil => exact absurd rfl h2' | cons x r => simp
        have e0 : rdc w6 b o = some (.string (B l[0])) := by rw [hkp6.rdc hb id]; have := hrd 0 _ (List.getElem?_eq_getElem hlp); rwa [Nat.add_zero] at this
        by_cases hone : l.length = 1 ∧ l.head? = some []
        · have ha : ((l.length : Int) == 1) = true := by rw [hone.1]; rfl
          have hz : l[0] = [] := by have := hone.2; rw [List.head?_eq_getElem?, List.getElem?_eq_getElem hlp] at this; simpa using this
          have hl1 : l = [[]] := by
            refine List.ext_getElem? fun i => ?_
            rcases Nat.eq_zero_or_pos i with rfl | hi
            · rw [List.getElem?_eq_getElem hlp, hz]; rfl
            · rw [List.getElem?_eq_none (by omega), List.getElem?_eq_none (by simp; omega)]
          have hby : bysep (cutp c0 false) jn = [] := by rw [← hjn, hl1]; rfl
          rw [hz] at e0
          rw [hby] at ho2
          rw [hby]
          have h00 : ((0 : Int) == 0) = true := rfl
          have hz0 : ((0 : Nat) : Int) = 0 := rfl
          try (simp -dsimp (maxSteps := 2000000) (disch := first | omega | ((repeat (first | rw [sz_drew] | rw [World.size_alloc] | rw [World.size_setCell] | rw [setCells_cons] | rw [setCells_nil])); first | done | omega) | fail) only [push_cast, ↓upd_at, ↓reduceIte, Nat.reduceEqDiff, Nat.reduceAdd, Nat.reduceMul, Nat.reduceSub, Nat.reduceLeDiff, Int.reduceToNat, reduceCtorEq, eq_self, beq_self_eq_true, f0, f1, f5, ha, e0, h00, hz0])
          repeat (first | refine Wp.seq ?_ | refine Wp.block ?_ | refine Wp.condT rfl ?_ | refine Wp.condF rfl ?_ | ((first | refine Wp.region rfl ?_ | refine Wp.skip ?_ | refine Wp.ret ?_ | refine Wp.exit ?_); simp -dsimp (maxSteps := 2000000) (disch := first | omega | ((repeat (first | rw [sz_drew] | rw [World.size_alloc] | rw [World.size_setCell] | rw [setCells_cons] | rw [setCells_nil])); first | done | omega) | fail) only [push_cast, ↓upd_at, ↓reduceIte, Nat.reduceEqDiff, Nat.reduceAdd, Nat.reduceMul, Nat.reduceSub, Nat.reduceLeDiff, Int.reduceToNat, reduceCtorEq, eq_self, beq_self_eq_true, f0, f1, f5, ha, e0, h00, hz0]) | refine And.intro (by first | omega | (simp only [List.length_append, List.length_cons, List.length_nil]; omega)) ?_)
          exact Ret.mk ⟨rfl, hkp6⟩
        · have hby : bysep (cutp c0 false) jn = l := by rw [← hjn]; exact bysep_join c0 l h2' hone hsep
          rw [hby] at ho2
          rw [hby]
          rcases Bool.eq_false_or_eq_true ((l.length : Int) == 1) with ha | ha
          · have hz : (l[0] == []) = false := by
              simp at ha ⊢
              intro hz
              exact hone ⟨by omega, by rw [List.head?_eq_getElem?, List.getElem?_eq_getElem hlp, hz]⟩
            try (simp -dsimp (maxSteps := 2000000) (disch := first | omega | ((repeat (first | rw [sz_drew] | rw [World.size_alloc] | rw [World.size_setCell] | rw [setCells_cons] | rw [setCells_nil])); first | done | omega) | fail) only [push_cast, ↓upd_at, ↓reduceIte, Nat.reduceEqDiff, Nat.reduceAdd, Nat.reduceMul, Nat.reduceSub, Nat.reduceLeDiff, Int.reduceToNat, reduceCtorEq, eq_self, beq_self_eq_true, f0, f1, f5, ha, e0, hz])
            repeat (first | refine Wp.seq ?_ | refine Wp.block ?_ | refine Wp.condT rfl ?_ | refine Wp.condF rfl ?_ | ((first | refine Wp.region rfl ?_ | refine Wp.skip ?_ | refine Wp.ret ?_ | refine Wp.exit ?_); simp -dsimp (maxSteps := 2000000) (disch := first | omega | ((repeat (first | rw [sz_drew] | rw [World.size_alloc] | rw [World.size_setCell] | rw [setCells_cons] | rw [setCells_nil])); first | done | omega) | fail) only [push_cast, ↓upd_at, ↓reduceIte, Nat.reduceEqDiff, Nat.reduceAdd, Nat.reduceMul, Nat.reduceSub, Nat.reduceLeDiff, Int.reduceToNat, reduceCtorEq, eq_self, beq_self_eq_true, f0, f1, f5, ha, e0, hz]) | refine And.intro (by first | omega | (simp only [List.length_append, List.length_cons, List.length_nil]; omega)) ?_)
            refine CallV.of isCall_36 (same_any ho2.Txt (hx.Kp hkp6 (fun _ _ => id)) (by omega) (by omega)) ?_
            rintro _ w7 ⟨rfl, hk7⟩
            have hdd : decide (l = l) = true := by simp
            rw [hdd]
            try (simp -dsimp (maxSteps := 2000000) (disch := first | omega | ((repeat (first | rw [sz_drew] | rw [World.size_alloc] | rw [World.size_setCell] | rw [setCells_cons] | rw [setCells_nil])); first | done | omega) | fail) only [push_cast, ↓upd_at, ↓reduceIte, Nat.reduceEqDiff, Nat.reduceAdd, Nat.reduceMul, Nat.reduceSub, Nat.reduceLeDiff, Int.reduceToNat, reduceCtorEq, eq_self, beq_self_eq_true, f0, f1, f5, ha, e0, hz])
            repeat (first | refine Wp.seq ?_ | refine Wp.block ?_ | refine Wp.condT rfl ?_ | refine Wp.condF rfl ?_ | ((first | refine Wp.region rfl ?_ | refine Wp.skip ?_ | refine Wp.ret ?_ | refine Wp.exit ?_); simp -dsimp (maxSteps := 2000000) (disch := first | omega | ((repeat (first | rw [sz_drew] | rw [World.size_alloc] | rw [World.size_setCell] | rw [setCells_cons] | rw [setCells_nil])); first | done | omega) | fail) only [push_cast, ↓upd_at, ↓reduceIte, Nat.reduceEqDiff, Nat.reduceAdd, Nat.reduceMul, Nat.reduceSub, Nat.reduceLeDiff, Int.reduceToNat, reduceCtorEq, eq_self, beq_self_eq_true, f0, f1, f5, ha, e0, hz]) | refine And.intro (by first | omega | (simp only [List.length_append, List.length_cons, List.length_nil]; omega)) ?_)
            refine CallV.of isCall_40 (nf_any (hrec6.Kp hk7)) ?_
            rintro _ _ ⟨rfl, rfl⟩
            try (simp -dsimp (maxSteps := 2000000) (disch := first | omega | ((repeat (first | rw [sz_drew] | rw [World.size_alloc] | rw [World.size_setCell] | rw [setCells_cons] | rw [setCells_nil])); first | done | omega) | fail) only [push_cast, ↓upd_at, ↓reduceIte, Nat.reduceEqDiff, Nat.reduceAdd, Nat.reduceMul, Nat.reduceSub, Nat.reduceLeDiff, Int.reduceToNat, reduceCtorEq, eq_self, beq_self_eq_true, f0, f1, f5])
            repeat (first | refine Wp.seq ?_ | refine Wp.block ?_ | refine Wp.condT rfl ?_ | refine Wp.condF rfl ?_ | ((first | refine Wp.region rfl ?_ | refine Wp.skip ?_ | refine Wp.ret ?_ | refine Wp.exit ?_); simp -dsimp (maxSteps := 2000000) (disch := first | omega | ((repeat (first | rw [sz_drew] | rw [World.size_alloc] | rw [World.size_setCell] | rw [setCells_cons] | rw [setCells_nil])); first | done | omega) | fail) only [push_cast, ↓upd_at, ↓reduceIte, Nat.reduceEqDiff, Nat.reduceAdd, Nat.reduceMul, Nat.reduceSub, Nat.reduceLeDiff, Int.reduceToNat, reduceCtorEq, eq_self, beq_self_eq_true, f0, f1, f5]) | refine And.intro (by first | omega | (simp only [List.length_append, List.length_cons, List.length_nil]; omega)) ?_)
            exact Ret.mk ⟨rfl, hkp6.trans hk7⟩
          · try (simp -dsimp (maxSteps := 2000000) (disch := first | omega | ((repeat (first | rw [sz_drew] | rw [World.size_alloc] | rw [World.size_setCell] | rw [setCells_cons] | rw [setCells_nil])); first | done | omega) | fail) only [push_cast, ↓upd_at, ↓reduceIte, Nat.reduceEqDiff, Nat.reduceAdd, Nat.reduceMul, Nat.reduceSub, Nat.reduceLeDiff, Int.reduceToNat, reduceCtorEq, eq_self, beq_self_eq_true, f0, f1, f5, ha])
            repeat (first | refine Wp.seq ?_ | refine Wp.block ?_ | refine Wp.condT rfl ?_ | refine Wp.condF rfl ?_ | ((first | refine Wp.region rfl ?_ | refine Wp.skip ?_ | refine Wp.ret ?_ | refine Wp.exit ?_); simp -dsimp (maxSteps := 2000000) (disch := first | omega | ((repeat (first | rw [sz_drew] | rw [World.size_alloc] | rw [World.size_setCell] | rw [setCells_cons] | rw [setCells_nil])); first | done | omega) | fail) only [push_cast, ↓upd_at, ↓reduceIte, Nat.reduceEqDiff, Nat.reduceAdd, Nat.reduceMul, Nat.reduceSub, Nat.reduceLeDiff, Int.reduceToNat, reduceCtorEq, eq_self, beq_self_eq_true, f0, f1, f5, ha]) | refine And.intro (by first | omega | (simp only [List.length_append, List.length_cons, List.length_nil]; omega)) ?_)
            refine CallV.of isCall_36 (same_any ho2.Txt (hx.Kp hkp6 (fun _ _ => id)) (by omega) (by omega)) ?_
            rintro _ w7 ⟨rfl, hk7⟩
            have hdd : decide (l = l) = true := by simp
            rw [hdd]
            try (simp -dsimp (maxSteps := 2000000) (disch := first | omega | ((repeat (first | rw [sz_drew] | rw [World.size_alloc] | rw [World.size_setCell] | rw [setCells_cons] | rw [setCells_nil])); first | done | omega) | fail) only [push_cast, ↓upd_at, ↓reduceIte, Nat.reduceEqDiff, Nat.reduceAdd, Nat.reduceMul, Nat.reduceSub, Nat.reduceLeDiff, Int.reduceToNat, reduceCtorEq, eq_self, beq_self_eq_true, f0, f1, f5, ha])
            repeat (first | refine Wp.seq ?_ | refine Wp.block ?_ | refine Wp.condT rfl ?_ | refine Wp.condF rfl ?_ | ((first | refine Wp.region rfl ?_ | refine Wp.skip ?_ | refine Wp.ret ?_ | refine Wp.exit ?_); simp -dsimp (maxSteps := 2000000) (disch := first | omega | ((repeat (first | rw [sz_drew] | rw [World.size_alloc] | rw [World.size_setCell] | rw [setCells_cons] | rw [setCells_nil])); first | done | omega) | fail) only [push_cast, ↓upd_at, ↓reduceIte, Nat.reduceEqDiff, Nat.reduceAdd, Nat.reduceMul, Nat.reduceSub, Nat.reduceLeDiff, Int.reduceToNat, reduceCtorEq, eq_self, beq_self_eq_true, f0, f1, f5, ha]) | refine And.intro (by first | omega | (simp only [List.length_append, List.length_cons, List.length_nil]; omega)) ?_)
            refine CallV.of isCall_40 (nf_any (hrec6.Kp hk7)) ?_
            rintro _ _ ⟨rfl, rfl⟩
            try (simp -dsimp (maxSteps := 2000000) (disch := first | omega | ((repeat (first | rw [sz_drew] | rw [World.size_alloc] | rw [World.size_setCell] | rw [setCells_cons] | rw [setCells_nil])); first | done | omega) | fail) only [push_cast, ↓upd_at, ↓reduceIte, Nat.reduceEqDiff, Nat.reduceAdd, Nat.reduceMul, Nat.reduceSub, Nat.reduceLeDiff, Int.reduceToNat, reduceCtorEq, eq_self, beq_self_eq_true, f0, f1, f5])
            repeat (first | refine Wp.seq ?_ | refine Wp.block ?_ | refine Wp.condT rfl ?_ | refine Wp.condF rfl ?_ | ((first | refine Wp.region rfl ?_ | refine Wp.skip ?_ | refine Wp.ret ?_ | refine Wp.exit ?_); simp -dsimp (maxSteps := 2000000) (disch := first | omega | ((repeat (first | rw [sz_drew] | rw [World.size_alloc] | rw [World.size_setCell] | rw [setCells_cons] | rw [setCells_nil])); first | done | omega) | fail) only [push_cast, ↓upd_at, ↓reduceIte, Nat.reduceEqDiff, Nat.reduceAdd, Nat.reduceMul, Nat.reduceSub, Nat.reduceLeDiff, Int.reduceToNat, reduceCtorEq, eq_self, beq_self_eq_true, f0, f1, f5]) | refine And.intro (by first | omega | (simp only [List.length_append, List.length_cons, List.length_nil]; omega)) ?_)
            exact Ret.mk ⟨rfl, hkp6.trans hk7⟩
end
end Go.Proofs.Ytddichibegppjaa
