/- FieldBlanks: the law. -/
import Derived.Test.YtddichibegppjaaF4
set_option linter.unusedSimpArgs false
set_option linter.unusedVariables false
namespace Go.Proofs.Ytddichibegppjaa
open Go Go.VC

def wd (l : List UInt8) : List UInt8 := l.flatMap fun c => if isBl c then [c, 32, 10] else [c]
theorem wd_len (l : List UInt8) : (wd l).length ≤ 3 * l.length := by
  induction l with
  | nil => simp [wd]
  | cons c l ih => simp only [wd, List.flatMap_cons, List.length_append, List.length_cons] at ih ⊢; split <;> simp at * <;> omega
theorem wd_take (s : List UInt8) (k : Nat) (h : k < s.length) : wd (s.take (k + 1)) = wd (s.take k) ++ (if isBl s[k] then [s[k], 32, 10] else [s[k]]) := by
  rw [List.take_succ_eq_append_getElem h]; simp only [wd, List.flatMap_append, List.flatMap_cons, List.flatMap_nil, List.append_nil]

theorem fl_wd (l m : List UInt8) (hm : ∀ cur, fl cur m = fl cur []) : ∀ cur, fl cur (wd l ++ m) = fl cur l := by
  induction l with
  | nil => intro cur; simpa [wd] using hm cur
  | cons c l ih =>
    intro cur
    have e : wd (c :: l) = (if isBl c then [c, 32, 10] else [c]) ++ wd l := rfl
    rw [e]
    by_cases hb : isBl c = true
    · rw [if_pos hb]
      simp only [List.cons_append, List.nil_append, fl, hb, if_true, show isBl 32 = true from rfl, show isBl 10 = true from rfl, ih]
    · rw [if_neg hb]
      simp only [List.cons_append, List.nil_append, fl, hb, ih]
theorem blanks_wd (s : List UInt8) : blanks (9 :: (wd s ++ [10])) = blanks s := by
  unfold blanks
  have h : ∀ cur, fl cur [10] = fl cur [] := by intro cur; simp [fl, show isBl 10 = true from rfl]

  have := fl_wd s [10] h []
  simpa [fl, show isBl 9 = true from rfl] using this

theorem fl_ok (l : List UInt8) : ∀ cur, (∀ c ∈ cur, isBl c = false) → ∀ f ∈ fl cur l, f ≠ [] ∧ ∀ c ∈ f, isBl c = false := by
  induction l with
  | nil =>
    intro cur h f hf
    simp only [fl] at hf
    split at hf
    · cases hf
    · simp at hf; subst hf; exact ⟨by assumption, h⟩
  | cons c l ih =>
    intro cur h f hf
    simp only [fl] at hf
    split at hf
    · split at hf
      · exact ih [] (by simp) f hf
      · rcases List.mem_cons.1 hf with rfl | hf
        · exact ⟨by assumption, h⟩
        · exact ih [] (by simp) f hf
    · rename_i hb
      exact ih _ (fun d hd => by rcases List.mem_append.1 hd with hd | hd; exact h d hd; simp at hd; subst hd; simpa using hb) f hf
theorem fl_le (l : List UInt8) : ∀ cur, (fl cur l).length ≤ l.length + 1 ∧ ∀ f ∈ fl cur l, f.length ≤ cur.length + l.length := by
  induction l with
  | nil => intro cur; simp only [fl]; split <;> simp
  | cons c l ih =>
    intro cur
    simp only [fl]
    have h0 := ih []
    split
    · split
      · exact ⟨by simp; omega, fun f hf => by have := h0.2 f hf; simp at *; omega⟩
      · refine ⟨by simp; omega, fun f hf => ?_⟩
        rcases List.mem_cons.1 hf with rfl | hf
        · omega
        · have := h0.2 f hf; simp at *; omega
    · have h1 := ih (cur ++ [c])
      exact ⟨by simp; omega, fun f hf => by have := h1.2 f hf; simp at *; omega⟩

theorem isBl_int (c : UInt8) : isBl c = ((c.toNat : Int) == 32 || (c.toNat : Int) == 9 || (c.toNat : Int) == 10) := by
  rw [← isBl_bp, Bool.eq_iff_iff]
  simp [bp]
  omega

theorem fieldBlanks_any (s : List UInt8) (w : World) :
    Calls Try.prog 13 #[.string (B s)] w fun e w' => e = .returned (.bool true) ∧ Kp0 w w' := by
  refine enter (n := 93) (args := [.string (B s)]) Try.func13 rfl rfl rfl (by simp) ?_
  repeat (first | refine Wp.seq ?_ | refine Wp.block ?_ | refine Wp.condT rfl ?_ | refine Wp.condF rfl ?_ | ((first | refine Wp.region rfl ?_ | refine Wp.skip ?_ | refine Wp.ret ?_ | refine Wp.exit ?_); simp -dsimp (maxSteps := 2000000) (disch := first | omega | (simp only [World.size_alloc, sz_drew, World.size_setCell, setCells_cons, setCells_nil]; (try omega); done) | fail) only [push_cast, ↓upd_at, ↓reduceIte, Nat.reduceEqDiff, Nat.reduceAdd, Nat.reduceMul, Nat.reduceSub, Nat.reduceLeDiff, Int.reduceToNat, reduceCtorEq, eq_self, beq_self_eq_true]) | refine And.intro (by first | omega | (simp only [List.length_append, List.length_cons, List.length_nil]; omega)) ?_)
  refine CallV.of isCall_33 (awake10 w) ?_
  rintro _ w1 ⟨rfl, hk1⟩
  rcases Bool.eq_false_or_eq_true (decide ((s.length : Int) > 1000)) with h1 | h1
  · simp -dsimp (maxSteps := 2000000) (disch := first | omega | (simp only [World.size_alloc, sz_drew, World.size_setCell, setCells_cons, setCells_nil]; (try omega); done) | fail) only [push_cast, ↓upd_at, ↓reduceIte, Nat.reduceEqDiff, Nat.reduceAdd, Nat.reduceMul, Nat.reduceSub, Nat.reduceLeDiff, Int.reduceToNat, reduceCtorEq, eq_self, beq_self_eq_true, h1]
    repeat (first | refine Wp.seq ?_ | refine Wp.block ?_ | refine Wp.condT rfl ?_ | refine Wp.condF rfl ?_ | ((first | refine Wp.region rfl ?_ | refine Wp.skip ?_ | refine Wp.ret ?_ | refine Wp.exit ?_); simp -dsimp (maxSteps := 2000000) (disch := first | omega | (simp only [World.size_alloc, sz_drew, World.size_setCell, setCells_cons, setCells_nil]; (try omega); done) | fail) only [push_cast, ↓upd_at, ↓reduceIte, Nat.reduceEqDiff, Nat.reduceAdd, Nat.reduceMul, Nat.reduceSub, Nat.reduceLeDiff, Int.reduceToNat, reduceCtorEq, eq_self, beq_self_eq_true, h1]) | refine And.intro (by first | omega | (simp only [List.length_append, List.length_cons, List.length_nil]; omega)) ?_)
    exact Ret.mk ⟨rfl, hk1⟩
  have h1' : s.length ≤ 1000 := by simp at h1; omega
  simp -dsimp (maxSteps := 2000000) (disch := first | omega | (simp only [World.size_alloc, sz_drew, World.size_setCell, setCells_cons, setCells_nil]; (try omega); done) | fail) only [push_cast, ↓upd_at, ↓reduceIte, Nat.reduceEqDiff, Nat.reduceAdd, Nat.reduceMul, Nat.reduceSub, Nat.reduceLeDiff, Int.reduceToNat, reduceCtorEq, eq_self, beq_self_eq_true, h1]
  repeat (first | refine Wp.seq ?_ | refine Wp.block ?_ | refine Wp.condT rfl ?_ | refine Wp.condF rfl ?_ | ((first | refine Wp.region rfl ?_ | refine Wp.skip ?_ | refine Wp.ret ?_ | refine Wp.exit ?_); simp -dsimp (maxSteps := 2000000) (disch := first | omega | (simp only [World.size_alloc, sz_drew, World.size_setCell, setCells_cons, setCells_nil]; (try omega); done) | fail) only [push_cast, ↓upd_at, ↓reduceIte, Nat.reduceEqDiff, Nat.reduceAdd, Nat.reduceMul, Nat.reduceSub, Nat.reduceLeDiff, Int.reduceToNat, reduceCtorEq, eq_self, beq_self_eq_true, h1]) | refine And.intro (by first | omega | (simp only [List.length_append, List.length_cons, List.length_nil]; omega)) ?_)
  refine Wp.loop (α := Nat) (fun k F w2 => F 0 = .string (B s) ∧ F 3 = .string (B (9 :: wd (s.take k))) ∧ F 4 = .int .i64 k ∧ k ≤ s.length ∧ w1 = w2) (fun k => s.length - k) 0 ⟨rfl, rfl, rfl, by omega, rfl⟩ ?_
  rintro k F _ ⟨f0, f3, f4, hk, rfl⟩
  have hwl := wd_len (s.take k)
  have htl : (s.take k).length = k := by simp; omega
  rw [htl] at hwl
  rcases Bool.eq_false_or_eq_true (decide ((k : Int) < (s.length : Int))) with h2 | h2
  · have hk' : k < s.length := by simpa using h2
    have hbt : bt (B s) k = (s[k].toNat : Int) := by rw [bt_B]; simp [hk']
    have hwr : IntKind.i64.wrap ((k : Int) + 1) = ((k + 1 : Nat) : Int) := by rw [wrap_id (by omega)]; omega
    have hex : (s.drop k).take (((k : Int) + 1).toNat - k) = [s[k]] := by
      rw [show ((k : Int) + 1).toNat - k = 1 by omega, List.drop_eq_getElem_cons hk']; rfl
    rcases Bool.eq_false_or_eq_true ((s[k].toNat : Int) == 32) with b1 | b1
    · have hbl : isBl s[k] = true := by rw [isBl_int]; simp [b1]
      repeat (first | refine Wp.seq ?_ | refine Wp.block ?_ | refine Wp.condT rfl ?_ | refine Wp.condF rfl ?_ | ((first | refine Wp.region rfl ?_ | refine Wp.skip ?_ | refine Wp.ret ?_ | refine Wp.exit ?_); simp -dsimp (maxSteps := 2000000) (disch := first | omega | (simp only [World.size_alloc, sz_drew, World.size_setCell, setCells_cons, setCells_nil]; (try omega); done) | fail) only [push_cast, ↓upd_at, ↓reduceIte, Nat.reduceEqDiff, Nat.reduceAdd, Nat.reduceMul, Nat.reduceSub, Nat.reduceLeDiff, Int.reduceToNat, reduceCtorEq, eq_self, beq_self_eq_true, f0, f3, f4, h2, hwr, hex, hbt, b1, h1']) | refine And.intro (by first | omega | (simp only [List.length_append, List.length_cons, List.length_nil]; omega)) ?_)
      refine Again.mk (k + 1) ⟨?_, ?_, ?_, by omega, rfl⟩ (by omega)
      · simp -dsimp (maxSteps := 2000000) (disch := first | omega | (simp only [World.size_alloc, sz_drew, World.size_setCell, setCells_cons, setCells_nil]; (try omega); done) | fail) only [push_cast, ↓upd_at, ↓reduceIte, Nat.reduceEqDiff, Nat.reduceAdd, Nat.reduceMul, Nat.reduceSub, Nat.reduceLeDiff, Int.reduceToNat, reduceCtorEq, eq_self, beq_self_eq_true, f0]
      · simp -dsimp (maxSteps := 2000000) (disch := first | omega | (simp only [World.size_alloc, sz_drew, World.size_setCell, setCells_cons, setCells_nil]; (try omega); done) | fail) only [push_cast, ↓upd_at, ↓reduceIte, Nat.reduceEqDiff, Nat.reduceAdd, Nat.reduceMul, Nat.reduceSub, Nat.reduceLeDiff, Int.reduceToNat, reduceCtorEq, eq_self, beq_self_eq_true, f3]
        rw [wd_take s k hk', hbl]; simp
      · simp -dsimp (maxSteps := 2000000) (disch := first | omega | (simp only [World.size_alloc, sz_drew, World.size_setCell, setCells_cons, setCells_nil]; (try omega); done) | fail) only [push_cast, ↓upd_at, ↓reduceIte, Nat.reduceEqDiff, Nat.reduceAdd, Nat.reduceMul, Nat.reduceSub, Nat.reduceLeDiff, Int.reduceToNat, reduceCtorEq, eq_self, beq_self_eq_true, hwr]
    rcases Bool.eq_false_or_eq_true ((s[k].toNat : Int) == 9) with b2 | b2
    · have hbl : isBl s[k] = true := by rw [isBl_int]; simp [b1, b2]
      repeat (first | refine Wp.seq ?_ | refine Wp.block ?_ | refine Wp.condT rfl ?_ | refine Wp.condF rfl ?_ | ((first | refine Wp.region rfl ?_ | refine Wp.skip ?_ | refine Wp.ret ?_ | refine Wp.exit ?_); simp -dsimp (maxSteps := 2000000) (disch := first | omega | (simp only [World.size_alloc, sz_drew, World.size_setCell, setCells_cons, setCells_nil]; (try omega); done) | fail) only [push_cast, ↓upd_at, ↓reduceIte, Nat.reduceEqDiff, Nat.reduceAdd, Nat.reduceMul, Nat.reduceSub, Nat.reduceLeDiff, Int.reduceToNat, reduceCtorEq, eq_self, beq_self_eq_true, f0, f3, f4, h2, hwr, hex, hbt, b1, b2, h1']) | refine And.intro (by first | omega | (simp only [List.length_append, List.length_cons, List.length_nil]; omega)) ?_)
      refine Again.mk (k + 1) ⟨?_, ?_, ?_, by omega, rfl⟩ (by omega)
      · simp -dsimp (maxSteps := 2000000) (disch := first | omega | (simp only [World.size_alloc, sz_drew, World.size_setCell, setCells_cons, setCells_nil]; (try omega); done) | fail) only [push_cast, ↓upd_at, ↓reduceIte, Nat.reduceEqDiff, Nat.reduceAdd, Nat.reduceMul, Nat.reduceSub, Nat.reduceLeDiff, Int.reduceToNat, reduceCtorEq, eq_self, beq_self_eq_true, f0]
      · simp -dsimp (maxSteps := 2000000) (disch := first | omega | (simp only [World.size_alloc, sz_drew, World.size_setCell, setCells_cons, setCells_nil]; (try omega); done) | fail) only [push_cast, ↓upd_at, ↓reduceIte, Nat.reduceEqDiff, Nat.reduceAdd, Nat.reduceMul, Nat.reduceSub, Nat.reduceLeDiff, Int.reduceToNat, reduceCtorEq, eq_self, beq_self_eq_true, f3]
        rw [wd_take s k hk', hbl]; simp
      · simp -dsimp (maxSteps := 2000000) (disch := first | omega | (simp only [World.size_alloc, sz_drew, World.size_setCell, setCells_cons, setCells_nil]; (try omega); done) | fail) only [push_cast, ↓upd_at, ↓reduceIte, Nat.reduceEqDiff, Nat.reduceAdd, Nat.reduceMul, Nat.reduceSub, Nat.reduceLeDiff, Int.reduceToNat, reduceCtorEq, eq_self, beq_self_eq_true, hwr]
    rcases Bool.eq_false_or_eq_true ((s[k].toNat : Int) == 10) with b3 | b3
    · have hbl : isBl s[k] = true := by rw [isBl_int]; simp [b1, b2, b3]
      repeat (first | refine Wp.seq ?_ | refine Wp.block ?_ | refine Wp.condT rfl ?_ | refine Wp.condF rfl ?_ | ((first | refine Wp.region rfl ?_ | refine Wp.skip ?_ | refine Wp.ret ?_ | refine Wp.exit ?_); simp -dsimp (maxSteps := 2000000) (disch := first | omega | (simp only [World.size_alloc, sz_drew, World.size_setCell, setCells_cons, setCells_nil]; (try omega); done) | fail) only [push_cast, ↓upd_at, ↓reduceIte, Nat.reduceEqDiff, Nat.reduceAdd, Nat.reduceMul, Nat.reduceSub, Nat.reduceLeDiff, Int.reduceToNat, reduceCtorEq, eq_self, beq_self_eq_true, f0, f3, f4, h2, hwr, hex, hbt, b1, b2, b3, h1']) | refine And.intro (by first | omega | (simp only [List.length_append, List.length_cons, List.length_nil]; omega)) ?_)
      refine Again.mk (k + 1) ⟨?_, ?_, ?_, by omega, rfl⟩ (by omega)
      · simp -dsimp (maxSteps := 2000000) (disch := first | omega | (simp only [World.size_alloc, sz_drew, World.size_setCell, setCells_cons, setCells_nil]; (try omega); done) | fail) only [push_cast, ↓upd_at, ↓reduceIte, Nat.reduceEqDiff, Nat.reduceAdd, Nat.reduceMul, Nat.reduceSub, Nat.reduceLeDiff, Int.reduceToNat, reduceCtorEq, eq_self, beq_self_eq_true, f0]
      · simp -dsimp (maxSteps := 2000000) (disch := first | omega | (simp only [World.size_alloc, sz_drew, World.size_setCell, setCells_cons, setCells_nil]; (try omega); done) | fail) only [push_cast, ↓upd_at, ↓reduceIte, Nat.reduceEqDiff, Nat.reduceAdd, Nat.reduceMul, Nat.reduceSub, Nat.reduceLeDiff, Int.reduceToNat, reduceCtorEq, eq_self, beq_self_eq_true, f3]
        rw [wd_take s k hk', hbl]; simp
      · simp -dsimp (maxSteps := 2000000) (disch := first | omega | (simp only [World.size_alloc, sz_drew, World.size_setCell, setCells_cons, setCells_nil]; (try omega); done) | fail) only [push_cast, ↓upd_at, ↓reduceIte, Nat.reduceEqDiff, Nat.reduceAdd, Nat.reduceMul, Nat.reduceSub, Nat.reduceLeDiff, Int.reduceToNat, reduceCtorEq, eq_self, beq_self_eq_true, hwr]
    · have hbl : isBl s[k] = false := by rw [isBl_int]; simp [b1, b2, b3]
      repeat (first | refine Wp.seq ?_ | refine Wp.block ?_ | refine Wp.condT rfl ?_ | refine Wp.condF rfl ?_ | ((first | refine Wp.region rfl ?_ | refine Wp.skip ?_ | refine Wp.ret ?_ | refine Wp.exit ?_); simp -dsimp (maxSteps := 2000000) (disch := first | omega | (simp only [World.size_alloc, sz_drew, World.size_setCell, setCells_cons, setCells_nil]; (try omega); done) | fail) only [push_cast, ↓upd_at, ↓reduceIte, Nat.reduceEqDiff, Nat.reduceAdd, Nat.reduceMul, Nat.reduceSub, Nat.reduceLeDiff, Int.reduceToNat, reduceCtorEq, eq_self, beq_self_eq_true, f0, f3, f4, h2, hwr, hex, hbt, b1, b2, b3, h1']) | refine And.intro (by first | omega | (simp only [List.length_append, List.length_cons, List.length_nil]; omega)) ?_)
      refine Again.mk (k + 1) ⟨?_, ?_, ?_, by omega, rfl⟩ (by omega)
      · simp -dsimp (maxSteps := 2000000) (disch := first | omega | (simp only [World.size_alloc, sz_drew, World.size_setCell, setCells_cons, setCells_nil]; (try omega); done) | fail) only [push_cast, ↓upd_at, ↓reduceIte, Nat.reduceEqDiff, Nat.reduceAdd, Nat.reduceMul, Nat.reduceSub, Nat.reduceLeDiff, Int.reduceToNat, reduceCtorEq, eq_self, beq_self_eq_true, f0]
      · simp -dsimp (maxSteps := 2000000) (disch := first | omega | (simp only [World.size_alloc, sz_drew, World.size_setCell, setCells_cons, setCells_nil]; (try omega); done) | fail) only [push_cast, ↓upd_at, ↓reduceIte, Nat.reduceEqDiff, Nat.reduceAdd, Nat.reduceMul, Nat.reduceSub, Nat.reduceLeDiff, Int.reduceToNat, reduceCtorEq, eq_self, beq_self_eq_true, f3]
        rw [wd_take s k hk', hbl]; simp
      · simp -dsimp (maxSteps := 2000000) (disch := first | omega | (simp only [World.size_alloc, sz_drew, World.size_setCell, setCells_cons, setCells_nil]; (try omega); done) | fail) only [push_cast, ↓upd_at, ↓reduceIte, Nat.reduceEqDiff, Nat.reduceAdd, Nat.reduceMul, Nat.reduceSub, Nat.reduceLeDiff, Int.reduceToNat, reduceCtorEq, eq_self, beq_self_eq_true, hwr]
  · have hk' : k = s.length := by have : ¬ k < s.length := by simpa using h2
                                  omega
    subst hk'
    rw [List.take_length] at f3 hwl
    repeat (first | refine Wp.seq ?_ | refine Wp.block ?_ | refine Wp.condT rfl ?_ | refine Wp.condF rfl ?_ | ((first | refine Wp.region rfl ?_ | refine Wp.skip ?_ | refine Wp.ret ?_ | refine Wp.exit ?_); simp -dsimp (maxSteps := 2000000) (disch := first | omega | (simp only [World.size_alloc, sz_drew, World.size_setCell, setCells_cons, setCells_nil]; (try omega); done) | fail) only [push_cast, ↓upd_at, ↓reduceIte, Nat.reduceEqDiff, Nat.reduceAdd, Nat.reduceMul, Nat.reduceSub, Nat.reduceLeDiff, Int.reduceToNat, reduceCtorEq, eq_self, beq_self_eq_true, f0, f3, f4, h2]) | refine And.intro (by first | omega | (simp only [List.length_append, List.length_cons, List.length_nil]; omega)) ?_)
    refine CallV.of isCall_34 (split_blank s false _ (by omega)) ?_
    rintro _ w2 ⟨A, c, rfl, ho, hk2⟩
    simp -dsimp (maxSteps := 2000000) (disch := first | omega | (simp only [World.size_alloc, sz_drew, World.size_setCell, setCells_cons, setCells_nil]; (try omega); done) | fail) only [push_cast, ↓upd_at, ↓reduceIte, Nat.reduceEqDiff, Nat.reduceAdd, Nat.reduceMul, Nat.reduceSub, Nat.reduceLeDiff, Int.reduceToNat, reduceCtorEq, eq_self, beq_self_eq_true, f0, f3, f4]
    repeat (first | refine Wp.seq ?_ | refine Wp.block ?_ | refine Wp.condT rfl ?_ | refine Wp.condF rfl ?_ | ((first | refine Wp.region rfl ?_ | refine Wp.skip ?_ | refine Wp.ret ?_ | refine Wp.exit ?_); simp -dsimp (maxSteps := 2000000) (disch := first | omega | (simp only [World.size_alloc, sz_drew, World.size_setCell, setCells_cons, setCells_nil]; (try omega); done) | fail) only [push_cast, ↓upd_at, ↓reduceIte, Nat.reduceEqDiff, Nat.reduceAdd, Nat.reduceMul, Nat.reduceSub, Nat.reduceLeDiff, Int.reduceToNat, reduceCtorEq, eq_self, beq_self_eq_true, f0, f3, f4]) | refine And.intro (by first | omega | (simp only [List.length_append, List.length_cons, List.length_nil]; omega)) ?_)
    refine CallV.of isCall_34 (split_blank (9 :: (wd s ++ [10])) true _ (by simp; omega)) ?_
    rw [blanks_wd]
    rintro _ w3 ⟨A', c', rfl, ho', hk3⟩
    have ho3 := ho.Kp hk3 (fun _ _ => id)
    have hall := fl_ok s [] (by simp)
    have hfl := fl_le s []
    change ∀ f ∈ blanks s, _ at hall
    change (blanks s).length ≤ _ ∧ ∀ f ∈ blanks s, _ at hfl
    generalize blanks s = xs at *
    simp -dsimp (maxSteps := 2000000) (disch := first | omega | (simp only [World.size_alloc, sz_drew, World.size_setCell, setCells_cons, setCells_nil]; (try omega); done) | fail) only [push_cast, ↓upd_at, ↓reduceIte, Nat.reduceEqDiff, Nat.reduceAdd, Nat.reduceMul, Nat.reduceSub, Nat.reduceLeDiff, Int.reduceToNat, reduceCtorEq, eq_self, beq_self_eq_true, f0, f3, f4]
    repeat (first | refine Wp.seq ?_ | refine Wp.block ?_ | refine Wp.condT rfl ?_ | refine Wp.condF rfl ?_ | ((first | refine Wp.region rfl ?_ | refine Wp.skip ?_ | refine Wp.ret ?_ | refine Wp.exit ?_); simp -dsimp (maxSteps := 2000000) (disch := first | omega | (simp only [World.size_alloc, sz_drew, World.size_setCell, setCells_cons, setCells_nil]; (try omega); done) | fail) only [push_cast, ↓upd_at, ↓reduceIte, Nat.reduceEqDiff, Nat.reduceAdd, Nat.reduceMul, Nat.reduceSub, Nat.reduceLeDiff, Int.reduceToNat, reduceCtorEq, eq_self, beq_self_eq_true, f0, f3, f4]) | refine And.intro (by first | omega | (simp only [List.length_append, List.length_cons, List.length_nil]; omega)) ?_)
    refine Wp.loop (α := Nat) (fun k F w4 => F 5 = .slice A xs.length c ∧ F 7 = .slice A' xs.length c' ∧ F 59 = .slice A xs.length c ∧ F 60 = .int .i64 xs.length ∧ F 61 = .int .i64 k ∧ k ≤ xs.length ∧ w3 = w4) (fun k => xs.length - k) 0 ⟨?_, ?_, ?_, ?_, rfl, by omega, rfl⟩ ?_
    · simp -dsimp (maxSteps := 2000000) (disch := first | omega | (simp only [World.size_alloc, sz_drew, World.size_setCell, setCells_cons, setCells_nil]; (try omega); done) | fail) only [push_cast, ↓upd_at, ↓reduceIte, Nat.reduceEqDiff, Nat.reduceAdd, Nat.reduceMul, Nat.reduceSub, Nat.reduceLeDiff, Int.reduceToNat, reduceCtorEq, eq_self, beq_self_eq_true]
    · simp -dsimp (maxSteps := 2000000) (disch := first | omega | (simp only [World.size_alloc, sz_drew, World.size_setCell, setCells_cons, setCells_nil]; (try omega); done) | fail) only [push_cast, ↓upd_at, ↓reduceIte, Nat.reduceEqDiff, Nat.reduceAdd, Nat.reduceMul, Nat.reduceSub, Nat.reduceLeDiff, Int.reduceToNat, reduceCtorEq, eq_self, beq_self_eq_true]
    · simp -dsimp (maxSteps := 2000000) (disch := first | omega | (simp only [World.size_alloc, sz_drew, World.size_setCell, setCells_cons, setCells_nil]; (try omega); done) | fail) only [push_cast, ↓upd_at, ↓reduceIte, Nat.reduceEqDiff, Nat.reduceAdd, Nat.reduceMul, Nat.reduceSub, Nat.reduceLeDiff, Int.reduceToNat, reduceCtorEq, eq_self, beq_self_eq_true]
    · simp -dsimp (maxSteps := 2000000) (disch := first | omega | (simp only [World.size_alloc, sz_drew, World.size_setCell, setCells_cons, setCells_nil]; (try omega); done) | fail) only [push_cast, ↓upd_at, ↓reduceIte, Nat.reduceEqDiff, Nat.reduceAdd, Nat.reduceMul, Nat.reduceSub, Nat.reduceLeDiff, Int.reduceToNat, reduceCtorEq, eq_self, beq_self_eq_true]
    rintro k F _ ⟨f5, f7, f59, f60, f61, hk, rfl⟩
    rcases Bool.eq_false_or_eq_true (decide ((k : Int) < (xs.length : Int))) with h2 | h2
    · have hk' : k < xs.length := by simpa using h2
      obtain ⟨g, rfl, hg, _⟩ := ho3.some (by omega)
      have hr := ho3.rdc k (by omega)
      rw [St_get, List.getElem?_eq_getElem hk'] at hr
      simp only [Option.map_some] at hr
      obtain ⟨hne, hbl⟩ := hall xs[k] (List.getElem_mem hk')
      have hfl2 := hfl.2 xs[k] (List.getElem_mem hk')
      generalize xs[k] = f at *
      have hne' : (f == []) = false := by simpa using hne
      repeat (first | refine Wp.seq ?_ | refine Wp.block ?_ | refine Wp.condT rfl ?_ | refine Wp.condF rfl ?_ | ((first | refine Wp.region rfl ?_ | refine Wp.skip ?_ | refine Wp.ret ?_ | refine Wp.exit ?_); simp -dsimp (maxSteps := 2000000) (disch := first | omega | (simp only [World.size_alloc, sz_drew, World.size_setCell, setCells_cons, setCells_nil]; (try omega); done) | fail) only [push_cast, ↓upd_at, ↓reduceIte, Nat.reduceEqDiff, Nat.reduceAdd, Nat.reduceMul, Nat.reduceSub, Nat.reduceLeDiff, Int.reduceToNat, reduceCtorEq, eq_self, beq_self_eq_true, f5, f7, f59, f60, f61, h2, hr, hne']) | refine And.intro (by first | omega | (simp only [List.length_append, List.length_cons, List.length_nil]; omega)) ?_)
      refine Wp.loop (α := Nat) (fun j F w4 => F 5 = .slice (some ⟨g, 0, none⟩) xs.length c ∧ F 7 = .slice A' xs.length c' ∧ F 59 = .slice (some ⟨g, 0, none⟩) xs.length c ∧ F 60 = .int .i64 xs.length ∧ F 61 = .int .i64 k ∧ F 10 = .string (B f) ∧ F 11 = .int .i64 j ∧ j ≤ f.length ∧ w3 = w4) (fun j => f.length - j) 0 ⟨?_, ?_, ?_, ?_, ?_, ?_, rfl, by omega, rfl⟩ ?_
      · simp -dsimp (maxSteps := 2000000) (disch := first | omega | (simp only [World.size_alloc, sz_drew, World.size_setCell, setCells_cons, setCells_nil]; (try omega); done) | fail) only [push_cast, ↓upd_at, ↓reduceIte, Nat.reduceEqDiff, Nat.reduceAdd, Nat.reduceMul, Nat.reduceSub, Nat.reduceLeDiff, Int.reduceToNat, reduceCtorEq, eq_self, beq_self_eq_true, f5]
      · simp -dsimp (maxSteps := 2000000) (disch := first | omega | (simp only [World.size_alloc, sz_drew, World.size_setCell, setCells_cons, setCells_nil]; (try omega); done) | fail) only [push_cast, ↓upd_at, ↓reduceIte, Nat.reduceEqDiff, Nat.reduceAdd, Nat.reduceMul, Nat.reduceSub, Nat.reduceLeDiff, Int.reduceToNat, reduceCtorEq, eq_self, beq_self_eq_true, f7]
      · simp -dsimp (maxSteps := 2000000) (disch := first | omega | (simp only [World.size_alloc, sz_drew, World.size_setCell, setCells_cons, setCells_nil]; (try omega); done) | fail) only [push_cast, ↓upd_at, ↓reduceIte, Nat.reduceEqDiff, Nat.reduceAdd, Nat.reduceMul, Nat.reduceSub, Nat.reduceLeDiff, Int.reduceToNat, reduceCtorEq, eq_self, beq_self_eq_true, f59]
      · simp -dsimp (maxSteps := 2000000) (disch := first | omega | (simp only [World.size_alloc, sz_drew, World.size_setCell, setCells_cons, setCells_nil]; (try omega); done) | fail) only [push_cast, ↓upd_at, ↓reduceIte, Nat.reduceEqDiff, Nat.reduceAdd, Nat.reduceMul, Nat.reduceSub, Nat.reduceLeDiff, Int.reduceToNat, reduceCtorEq, eq_self, beq_self_eq_true, f60]
      · simp -dsimp (maxSteps := 2000000) (disch := first | omega | (simp only [World.size_alloc, sz_drew, World.size_setCell, setCells_cons, setCells_nil]; (try omega); done) | fail) only [push_cast, ↓upd_at, ↓reduceIte, Nat.reduceEqDiff, Nat.reduceAdd, Nat.reduceMul, Nat.reduceSub, Nat.reduceLeDiff, Int.reduceToNat, reduceCtorEq, eq_self, beq_self_eq_true, f61]
      · simp -dsimp (maxSteps := 2000000) (disch := first | omega | (simp only [World.size_alloc, sz_drew, World.size_setCell, setCells_cons, setCells_nil]; (try omega); done) | fail) only [push_cast, ↓upd_at, ↓reduceIte, Nat.reduceEqDiff, Nat.reduceAdd, Nat.reduceMul, Nat.reduceSub, Nat.reduceLeDiff, Int.reduceToNat, reduceCtorEq, eq_self, beq_self_eq_true]
      rintro j F _ ⟨f5, f7, f59, f60, f61, f10, f11, hj, rfl⟩
      rcases Bool.eq_false_or_eq_true (decide ((j : Int) < (f.length : Int))) with h3 | h3
      · have hj' : j < f.length := by simpa using h3
        have hbt : bt (B f) j = (f[j].toNat : Int) := by rw [bt_B]; simp [hj']
        have hb := hbl f[j] (List.getElem_mem hj')
        rw [isBl_int] at hb
        simp only [Bool.or_eq_false_iff] at hb
        obtain ⟨⟨b1, b2⟩, b3⟩ := hb
        have hwr : IntKind.i64.wrap ((j : Int) + 1) = ((j + 1 : Nat) : Int) := by simp only [List.length_nil] at hfl2; rw [wrap_id (by omega)]; omega
        repeat (first | refine Wp.seq ?_ | refine Wp.block ?_ | refine Wp.condT rfl ?_ | refine Wp.condF rfl ?_ | ((first | refine Wp.region rfl ?_ | refine Wp.skip ?_ | refine Wp.ret ?_ | refine Wp.exit ?_); simp -dsimp (maxSteps := 2000000) (disch := first | omega | (simp only [World.size_alloc, sz_drew, World.size_setCell, setCells_cons, setCells_nil]; (try omega); done) | fail) only [push_cast, ↓upd_at, ↓reduceIte, Nat.reduceEqDiff, Nat.reduceAdd, Nat.reduceMul, Nat.reduceSub, Nat.reduceLeDiff, Int.reduceToNat, reduceCtorEq, eq_self, beq_self_eq_true, f5, f7, f59, f60, f61, f10, f11, h3, hbt, b1, b2, b3, hwr]) | refine And.intro (by first | omega | (simp only [List.length_append, List.length_cons, List.length_nil]; omega)) ?_)
        refine Again.mk (j + 1) ⟨?_, ?_, ?_, ?_, ?_, ?_, ?_, by omega, rfl⟩ (by omega)
        · simp -dsimp (maxSteps := 2000000) (disch := first | omega | (simp only [World.size_alloc, sz_drew, World.size_setCell, setCells_cons, setCells_nil]; (try omega); done) | fail) only [push_cast, ↓upd_at, ↓reduceIte, Nat.reduceEqDiff, Nat.reduceAdd, Nat.reduceMul, Nat.reduceSub, Nat.reduceLeDiff, Int.reduceToNat, reduceCtorEq, eq_self, beq_self_eq_true, f5]
        · simp -dsimp (maxSteps := 2000000) (disch := first | omega | (simp only [World.size_alloc, sz_drew, World.size_setCell, setCells_cons, setCells_nil]; (try omega); done) | fail) only [push_cast, ↓upd_at, ↓reduceIte, Nat.reduceEqDiff, Nat.reduceAdd, Nat.reduceMul, Nat.reduceSub, Nat.reduceLeDiff, Int.reduceToNat, reduceCtorEq, eq_self, beq_self_eq_true, f7]
        · simp -dsimp (maxSteps := 2000000) (disch := first | omega | (simp only [World.size_alloc, sz_drew, World.size_setCell, setCells_cons, setCells_nil]; (try omega); done) | fail) only [push_cast, ↓upd_at, ↓reduceIte, Nat.reduceEqDiff, Nat.reduceAdd, Nat.reduceMul, Nat.reduceSub, Nat.reduceLeDiff, Int.reduceToNat, reduceCtorEq, eq_self, beq_self_eq_true, f59]
        · simp -dsimp (maxSteps := 2000000) (disch := first | omega | (simp only [World.size_alloc, sz_drew, World.size_setCell, setCells_cons, setCells_nil]; (try omega); done) | fail) only [push_cast, ↓upd_at, ↓reduceIte, Nat.reduceEqDiff, Nat.reduceAdd, Nat.reduceMul, Nat.reduceSub, Nat.reduceLeDiff, Int.reduceToNat, reduceCtorEq, eq_self, beq_self_eq_true, f60]
        · simp -dsimp (maxSteps := 2000000) (disch := first | omega | (simp only [World.size_alloc, sz_drew, World.size_setCell, setCells_cons, setCells_nil]; (try omega); done) | fail) only [push_cast, ↓upd_at, ↓reduceIte, Nat.reduceEqDiff, Nat.reduceAdd, Nat.reduceMul, Nat.reduceSub, Nat.reduceLeDiff, Int.reduceToNat, reduceCtorEq, eq_self, beq_self_eq_true, f61]
        · simp -dsimp (maxSteps := 2000000) (disch := first | omega | (simp only [World.size_alloc, sz_drew, World.size_setCell, setCells_cons, setCells_nil]; (try omega); done) | fail) only [push_cast, ↓upd_at, ↓reduceIte, Nat.reduceEqDiff, Nat.reduceAdd, Nat.reduceMul, Nat.reduceSub, Nat.reduceLeDiff, Int.reduceToNat, reduceCtorEq, eq_self, beq_self_eq_true, f10]
        · simp -dsimp (maxSteps := 2000000) (disch := first | omega | (simp only [World.size_alloc, sz_drew, World.size_setCell, setCells_cons, setCells_nil]; (try omega); done) | fail) only [push_cast, ↓upd_at, ↓reduceIte, Nat.reduceEqDiff, Nat.reduceAdd, Nat.reduceMul, Nat.reduceSub, Nat.reduceLeDiff, Int.reduceToNat, reduceCtorEq, eq_self, beq_self_eq_true, hwr]
      · repeat (first | refine Wp.seq ?_ | refine Wp.block ?_ | refine Wp.condT rfl ?_ | refine Wp.condF rfl ?_ | ((first | refine Wp.region rfl ?_ | refine Wp.skip ?_ | refine Wp.ret ?_ | refine Wp.exit ?_); simp -dsimp (maxSteps := 2000000) (disch := first | omega | (simp only [World.size_alloc, sz_drew, World.size_setCell, setCells_cons, setCells_nil]; (try omega); done) | fail) only [push_cast, ↓upd_at, ↓reduceIte, Nat.reduceEqDiff, Nat.reduceAdd, Nat.reduceMul, Nat.reduceSub, Nat.reduceLeDiff, Int.reduceToNat, reduceCtorEq, eq_self, beq_self_eq_true, f5, f7, f59, f60, f61, f10, f11, h3]) | refine And.intro (by first | omega | (simp only [List.length_append, List.length_cons, List.length_nil]; omega)) ?_)
        have hwr : IntKind.i64.wrap ((k : Int) + 1) = ((k + 1 : Nat) : Int) := by rw [wrap_id (by omega)]; omega
        refine Again.mk (k + 1) ⟨?_, ?_, ?_, ?_, ?_, by omega, rfl⟩ (by omega)
        · simp -dsimp (maxSteps := 2000000) (disch := first | omega | (simp only [World.size_alloc, sz_drew, World.size_setCell, setCells_cons, setCells_nil]; (try omega); done) | fail) only [push_cast, ↓upd_at, ↓reduceIte, Nat.reduceEqDiff, Nat.reduceAdd, Nat.reduceMul, Nat.reduceSub, Nat.reduceLeDiff, Int.reduceToNat, reduceCtorEq, eq_self, beq_self_eq_true, f5]
        · simp -dsimp (maxSteps := 2000000) (disch := first | omega | (simp only [World.size_alloc, sz_drew, World.size_setCell, setCells_cons, setCells_nil]; (try omega); done) | fail) only [push_cast, ↓upd_at, ↓reduceIte, Nat.reduceEqDiff, Nat.reduceAdd, Nat.reduceMul, Nat.reduceSub, Nat.reduceLeDiff, Int.reduceToNat, reduceCtorEq, eq_self, beq_self_eq_true, f7]
        · simp -dsimp (maxSteps := 2000000) (disch := first | omega | (simp only [World.size_alloc, sz_drew, World.size_setCell, setCells_cons, setCells_nil]; (try omega); done) | fail) only [push_cast, ↓upd_at, ↓reduceIte, Nat.reduceEqDiff, Nat.reduceAdd, Nat.reduceMul, Nat.reduceSub, Nat.reduceLeDiff, Int.reduceToNat, reduceCtorEq, eq_self, beq_self_eq_true, f59]
        · simp -dsimp (maxSteps := 2000000) (disch := first | omega | (simp only [World.size_alloc, sz_drew, World.size_setCell, setCells_cons, setCells_nil]; (try omega); done) | fail) only [push_cast, ↓upd_at, ↓reduceIte, Nat.reduceEqDiff, Nat.reduceAdd, Nat.reduceMul, Nat.reduceSub, Nat.reduceLeDiff, Int.reduceToNat, reduceCtorEq, eq_self, beq_self_eq_true, f60]
        · simp -dsimp (maxSteps := 2000000) (disch := first | omega | (simp only [World.size_alloc, sz_drew, World.size_setCell, setCells_cons, setCells_nil]; (try omega); done) | fail) only [push_cast, ↓upd_at, ↓reduceIte, Nat.reduceEqDiff, Nat.reduceAdd, Nat.reduceMul, Nat.reduceSub, Nat.reduceLeDiff, Int.reduceToNat, reduceCtorEq, eq_self, beq_self_eq_true, hwr]
    · repeat (first | refine Wp.seq ?_ | refine Wp.block ?_ | refine Wp.condT rfl ?_ | refine Wp.condF rfl ?_ | ((first | refine Wp.region rfl ?_ | refine Wp.skip ?_ | refine Wp.ret ?_ | refine Wp.exit ?_); simp -dsimp (maxSteps := 2000000) (disch := first | omega | (simp only [World.size_alloc, sz_drew, World.size_setCell, setCells_cons, setCells_nil]; (try omega); done) | fail) only [push_cast, ↓upd_at, ↓reduceIte, Nat.reduceEqDiff, Nat.reduceAdd, Nat.reduceMul, Nat.reduceSub, Nat.reduceLeDiff, Int.reduceToNat, reduceCtorEq, eq_self, beq_self_eq_true, f5, f7, f59, f60, f61, h2]) | refine And.intro (by first | omega | (simp only [List.length_append, List.length_cons, List.length_nil]; omega)) ?_)
      refine CallV.of isCall_36 (same_any ho3.Txt ho'.Txt (by omega) (by omega)) ?_
      rintro _ w4 ⟨rfl, hk4⟩
      simp -dsimp (maxSteps := 2000000) (disch := first | omega | (simp only [World.size_alloc, sz_drew, World.size_setCell, setCells_cons, setCells_nil]; (try omega); done) | fail) only [push_cast, ↓upd_at, ↓reduceIte, Nat.reduceEqDiff, Nat.reduceAdd, Nat.reduceMul, Nat.reduceSub, Nat.reduceLeDiff, Int.reduceToNat, reduceCtorEq, eq_self, beq_self_eq_true]
      repeat (first | refine Wp.seq ?_ | refine Wp.block ?_ | refine Wp.condT rfl ?_ | refine Wp.condF rfl ?_ | ((first | refine Wp.region rfl ?_ | refine Wp.skip ?_ | refine Wp.ret ?_ | refine Wp.exit ?_); simp -dsimp (maxSteps := 2000000) (disch := first | omega | (simp only [World.size_alloc, sz_drew, World.size_setCell, setCells_cons, setCells_nil]; (try omega); done) | fail) only [push_cast, ↓upd_at, ↓reduceIte, Nat.reduceEqDiff, Nat.reduceAdd, Nat.reduceMul, Nat.reduceSub, Nat.reduceLeDiff, Int.reduceToNat, reduceCtorEq, eq_self, beq_self_eq_true]) | refine And.intro (by first | omega | (simp only [List.length_append, List.length_cons, List.length_nil]; omega)) ?_)
      exact Ret.mk ⟨by simp, ((hk1.trans hk2).trans hk3).trans hk4⟩
end Go.Proofs.Ytddichibegppjaa
