/- The reference's matcher: Ends. -/
import Derived.Test.YtddichibegppjaaZ2821514
import Derived.Test.YtddichibegppjaaVs
set_option linter.unusedSimpArgs false
set_option linter.unusedVariables false
set_option maxRecDepth 100000
set_option maxHeartbeats 8000000
attribute [local irreducible] Go.VC.OpV Go.VC.CallV Go.VC.Wp Go.VC.post
namespace Go.Proofs.Ytddichibegppjaa
open Go Go.VC

theorem endsCat_snoc (l : List UInt8) (k : Re) : ∀ (ks : List Re) (fr : List Bool), endsCat l (ks ++ [k]) fr = ends3 l k (endsCat l ks fr)
  | [], fr => by simp [endsCat]
  | e :: ks, fr => by simp only [List.cons_append, endsCat]; exact endsCat_snoc l k ks _
theorem endsAlt_snoc (l : List UInt8) (k : Re) (fr : List Bool) : ∀ (ks : List Re) (out : List Bool), endsAlt l (ks ++ [k]) fr out = orB (endsAlt l ks fr out) (ends3 l k fr)
  | [], out => by simp [endsAlt]
  | e :: ks, out => by simp only [List.cons_append, endsAlt]; exact endsAlt_snoc l k fr ks _
theorem iterE_succ (f : List Bool → List Bool) : ∀ (n : Nat) (x : List Bool), iterE f (n + 1) x = f (iterE f n x)
  | 0, x => rfl
  | n + 1, x => by rw [iterE]; exact iterE_succ f n (f x)
theorem ends3_len (l : List UInt8) (e : Re) (hg : Good e) (fr : List Bool) (hf : fr.length = l.length + 1) : (ends3 l e fr).length = l.length + 1 := (ends3_spec l e hg fr hf).1
theorem Goods_take {ks : List Re} (h : Goods ks) (n : Nat) : Goods (ks.take n) := by
  induction ks generalizing n with
  | nil => simpa using h
  | cons k ks ih =>
    cases n with
    | zero => simp [Goods]
    | succ n => simp only [Goods, List.take_succ_cons] at h ⊢; exact ⟨h.1, ih h.2 n⟩
theorem setE_get (l set : List UInt8) (fr : List Bool) (j : Nat) (hj : j < l.length + 1) : (setE l set fr).getD j false = match j with | 0 => false | i + 1 => fr.getD i false && set.contains (byteAt l i) := by
  simp only [setE, List.getD_eq_getElem?_getD, List.getElem?_map, List.getElem?_range hj, Option.map_some, Option.getD_some]
  cases j <;> rfl

abbrev OutE (w : World) (n : Nat) (x : List Bool) (e : Ending) (w' : World) : Prop :=
  ∃ b c, e = .returned (.slice (some ⟨b, 0, none⟩) n c) ∧ Bs w' b x ∧ Kp (fun _ => False) w w'

section
variable {D : Nat → Prop} {l : List UInt8}

theorem ends3_any (hl : l.length ≤ 1000000) : ∀ e : Re, Good e → wt e ≤ 1000000000 → ∀ (w : World) (cs : List Value) (b c : Nat) (fr : List Bool), IsRe w D e cs → fr.length = l.length + 1 → Bs w b fr →
    Calls Try.prog 62 #[.agg cs.toArray, .string (B l), .slice (some ⟨b, 0, none⟩) (l.length + 1) c] w (OutE w (l.length + 1) (ends3 l e fr)) := by
  refine Re.ind fun op set kids lo hi ih hg hwt w cs b c fr h hfr hbs => ?_
  obtain ⟨A, cc, rfl⟩ := h.cells
  simp only [wt] at hwt
  have hkl := wts_len kids
  have hgb := hg.bounds
  have hgk := hg.kids
  replace hgb : Hide _ := ⟨hgb⟩
  refine enter (n := 149) (args := [.agg #[.string (B op), .string (B set), .slice A kids.length cc, .int .i64 lo, .int .i64 hi], .string (B l), .slice (some ⟨b, 0, none⟩) (l.length + 1) c]) Try.func62 rfl rfl rfl (by simp) ?_
  refine Wp.seq (Wp.region rfl ?_)
  simp -dsimp (maxSteps := 2000000) (disch := first | omega | (simp only [qZ] <;> omega) | fail) only [push_cast, ↓qP, ↓reduceIte, Nat.reduceEqDiff, Nat.reduceAdd, Nat.reduceMul, Nat.reduceSub, Nat.reduceLeDiff, Int.reduceToNat, reduceCtorEq]
  refine Wp.seq (Wp.region rfl ?_)
  simp -dsimp (maxSteps := 2000000) (disch := first | omega | (simp only [qZ] <;> omega) | fail) only [push_cast, ↓qP, ↓reduceIte, Nat.reduceEqDiff, Nat.reduceAdd, Nat.reduceMul, Nat.reduceSub, Nat.reduceLeDiff, Int.reduceToNat, reduceCtorEq]
  refine ⟨by omega, ?_⟩
  obtain ⟨p, hp⟩ : ∃ p, p = w.heap.size := ⟨_, rfl⟩
  obtain ⟨q, hq⟩ : ∃ q, q = w.heap.size + 1 := ⟨_, rfl⟩
  rw [← hq, ← hp]
  refine Wp.gen (A := fun W => Kp (fun _ => False) w W ∧ Blk W p 33 [.string (B op), .string (B set), .slice A kids.length cc, .int .i64 lo, .int .i64 hi] ∧ Blk W q 4 (bools (noP l))) ⟨((Kp.refl _ w).alloc _).alloc _, by rw [hp]; exact (Blk.new w 33 [.string (B op), .string (B set), .slice A kids.length cc, .int .i64 lo, .int .i64 hi]).alloc _, ?_⟩ ?_
  · have := Blk.new (w.alloc (.cells (List.toArray [.string (B op), .string (B set), .slice A kids.length cc, .int .i64 lo, .int .i64 hi]) 33)) 4 (zeros [.bool false] (l.length + 1))
    rw [World.size_alloc, ← hq, zeros_one] at this
    simpa [bools, noP, zeros_one] using this
  rintro w1 ⟨k1, hp1, hq1⟩
  have hN : (noP l).length = l.length + 1 := by simp [noP]
  have e1 : (op == [115, 101, 116]) = decide (op = opSet) := list_eqb _ _
  have e2 : (op == [98, 111, 108]) = decide (op = opBol) := list_eqb _ _
  have e3 : (op == [101, 111, 108]) = decide (op = opEol) := list_eqb _ _
  have e4 : (op == [97, 108, 116]) = decide (op = opAlt) := list_eqb _ _
  have e5 : (op == [114, 101, 112]) = decide (op = opRep) := list_eqb _ _
  have e6 : (op == [99, 97, 116]) = decide (op = opCat) := list_eqb _ _
  have hqw : ¬ q < w.heap.size := by omega
  have hpq : p ≠ q := by omega
  refine Wp.cut (fun F W => ∃ b c, F 7 = .slice (some ⟨b, 0, none⟩) (l.length + 1) c ∧ Bs W b (ends3 l (.node op set kids lo hi) fr) ∧ Kp (fun _ => False) w W) ?_ ?_
  rotate_left
  · rintro F W ⟨b, c, f7, hb, hk⟩
    repeat (first | refine qS ?_ | refine qB ?_ | refine qT rfl ?_ | refine qF rfl ?_ | ((first | refine qR rfl ?_ | refine qK ?_ | refine qE ?_ | refine qW ?_ | refine qM ?_); try simp -dsimp (maxSteps := 2000000) (disch := first | omega | (simp only [qZ] <;> omega) | fail) only [push_cast, ↓qP, ↓reduceIte, Nat.reduceEqDiff, Nat.reduceAdd, Nat.reduceMul, Nat.reduceSub, Nat.reduceLeDiff, Int.reduceToNat, reduceCtorEq, f7]) | (refine qA ?_ ?_; (first | omega | (simp only [qL]; omega) | (simp only [qD] at *; omega))))
    exact Ret.mk ⟨b, c, rfl, hb, hk⟩
  have hltp := hp1.lt
  have hltq := hq1.lt
  have hbs1 := hbs.Kp k1
  have hltb := hbs1.1
  simp only [ends3]
  by_cases c1 : op = opSet
  · have c1' := c1
    rw [decide_eq_true c1] at e1
    rw [if_pos c1]
    repeat (first | refine qS ?_ | refine qB ?_ | refine qT rfl ?_ | refine qF rfl ?_ | ((first | refine qR rfl ?_ | refine qK ?_ | refine qE ?_ | refine qW ?_ | refine qM ?_); try simp -dsimp (maxSteps := 2000000) (disch := first | omega | (simp only [qZ] <;> omega) | fail) only [push_cast, ↓qP, ↓reduceIte, Nat.reduceEqDiff, Nat.reduceAdd, Nat.reduceMul, Nat.reduceSub, Nat.reduceLeDiff, Int.reduceToNat, reduceCtorEq, hp1.rdc, e1]) | (refine qA ?_ ?_; (first | omega | (simp only [qL]; omega) | (simp only [qD] at *; omega))))
    refine Wp.loop (α := Nat) (fun j F W => j ≤ l.length ∧ F 1 = .string (B l) ∧ F 2 = .slice (some ⟨b, 0, none⟩) (l.length + 1) c ∧ F 3 = .pointer (some ⟨p, 0, none⟩) ∧ F 7 = .slice (some ⟨q, 0, none⟩) (l.length + 1) (l.length + 1) ∧ F 8 = .int .i64 j ∧ Blk W p 33 [.string (B op), .string (B set), .slice A kids.length cc, .int .i64 lo, .int .i64 hi] ∧ Blk W q 4 (bools (upto (setE l set fr) (j + 1))) ∧ Kp (fun _ => False) w W) (fun j => l.length - j) 0
      ⟨Nat.zero_le _, by simp [upd, arg], by simp [upd, arg], by simp [upd, hp], by simp [upd, hq], by simp [upd], hp1, ?_, k1⟩ ?_
    · have hx0 : (setE l set fr).getD 0 false = false := setE_get l set fr 0 (by omega)
      rw [upto_skip _ _ hx0, upto_zero, (setE_spec l set fr hfr).1]
      exact hq1
    clear hp1 hq1 hbs1 hltp hltq hltb k1
    rintro j F W ⟨hj, f1, f2, f3, f7, f8, hp1, hq1, k1⟩
    have hltp := hp1.lt
    have hltq := hq1.lt
    have hbs1 := hbs.Kp k1
    have hltb := hbs1.1
    have hxl := (setE_spec l set fr hfr).1
    rcases Nat.lt_or_ge j l.length with hlt | hge
    · have c1 : decide ((j : Int) < (l.length : Int)) = true := decide_eq_true (by omega)
      have r1 := hbs1.2 j (by omega)
      have hx := setE_get l set fr (j + 1) (by omega)
      simp only at hx
      rcases Bool.eq_false_or_eq_true (fr.getD j false) with c2 | c2
      · rw [c2] at r1 hx
        rw [Bool.true_and] at hx
        repeat (first | refine qS ?_ | refine qB ?_ | refine qT rfl ?_ | refine qF rfl ?_ | ((first | refine qR rfl ?_ | refine qK ?_ | refine qE ?_ | refine qW ?_ | refine qM ?_); try simp -dsimp (maxSteps := 2000000) (disch := first | omega | (simp only [qZ] <;> omega) | fail) only [push_cast, ↓qP, ↓reduceIte, Nat.reduceEqDiff, Nat.reduceAdd, Nat.reduceMul, Nat.reduceSub, Nat.reduceLeDiff, Int.reduceToNat, reduceCtorEq, f1, f2, f3, f7, f8, c1]) | (refine qA ?_ ?_; (first | omega | (simp only [qL]; omega) | (simp only [qD] at *; omega))))
        refine Wp.draw [0, 0, 3, 7, 15, 31, 63, 31, 31, 415, 1023, 2047] [10] (.op 0 false false [] <| .op 1 false false [] <| .op 2 false false [] <| .op 3 false false [] <| .op 4 false false [] <| .op 5 false false [] <| .op 6 false false [] <| .op 7 false false [] <| .op 8 false false [] <| .op 9 false false [] <| .op 10 true false [] <| .op 11 false false [] <| .nil) mixed (by kernel_rfl) ?_
        simp -dsimp (maxSteps := 2000000) (disch := first | omega | (simp only [qZ] <;> omega) | fail) only [push_cast, ↓qP, ↓reduceIte, Nat.reduceEqDiff, Nat.reduceAdd, Nat.reduceMul, Nat.reduceSub, Nat.reduceLeDiff, Int.reduceToNat, reduceCtorEq, f1, f2, f3, f7, f8, r1, hp1.rdc]
        refine ⟨by omega, by omega, ?_⟩
        refine CallV.of isCall_77 (has_any set (byteAt l j) W.drew (by have := hg.set c1'; omega)) ?_
        rintro _ _ ⟨rfl, rfl⟩
        have hcell : rdc W q (j + 1) = some (.bool ((upto (setE l set fr) (j + 1)).getD (j + 1) false)) := by rw [hq1.rdc]; exact bools_get _ _ (by rw [upto_len]; omega)
        rcases Bool.eq_false_or_eq_true (set.contains (byteAt l j)) with c3 | c3
        · rw [c3] at hx
          have hset := hq1.set (j + 1) (.bool ((setE l set fr).getD (j + 1) false))
          rw [bools_set, ← upto_succ _ _ (by omega), hx] at hset
          have hix : ((j : Int) + 1).toNat = j + 1 := by omega
          refine Sm.out ?_
          repeat (first | refine qS ?_ | refine qB ?_ | refine qT rfl ?_ | refine qF rfl ?_ | ((first | refine qR rfl ?_ | refine qK ?_ | refine qE ?_ | refine qW ?_ | refine qM ?_); try simp -dsimp (maxSteps := 2000000) (disch := first | omega | (simp only [qZ] <;> omega) | fail) only [push_cast, ↓qP, ↓reduceIte, Nat.reduceEqDiff, Nat.reduceAdd, Nat.reduceMul, Nat.reduceSub, Nat.reduceLeDiff, Int.reduceToNat, reduceCtorEq, f1, f2, f3, f7, f8, c3, hix, hcell, hq1.fz]) | (refine qA ?_ ?_; (first | omega | (simp only [qL]; omega) | (simp only [qD] at *; omega))))
          exact Again.mk (j + 1) ⟨by omega, by simp [upd, f1], by simp [upd, f2], by simp [upd, f3], by simp [upd, f7], by simp [upd], hp1.drew.far hpq _, hset, (k1.drew.setCell (fun h => absurd h hqw) _)⟩ (by omega)
        · rw [c3] at hx
          refine Sm.out ?_
          repeat (first | refine qS ?_ | refine qB ?_ | refine qT rfl ?_ | refine qF rfl ?_ | ((first | refine qR rfl ?_ | refine qK ?_ | refine qE ?_ | refine qW ?_ | refine qM ?_); try simp -dsimp (maxSteps := 2000000) (disch := first | omega | (simp only [qZ] <;> omega) | fail) only [push_cast, ↓qP, ↓reduceIte, Nat.reduceEqDiff, Nat.reduceAdd, Nat.reduceMul, Nat.reduceSub, Nat.reduceLeDiff, Int.reduceToNat, reduceCtorEq, f1, f2, f3, f7, f8, c3]) | (refine qA ?_ ?_; (first | omega | (simp only [qL]; omega) | (simp only [qD] at *; omega))))
          exact Again.mk (j + 1) ⟨by omega, by simp [upd, f1], by simp [upd, f2], by simp [upd, f3], by simp [upd, f7], by simp [upd], hp1.drew, by rw [upto_skip _ _ hx]; exact hq1, k1.drew⟩ (by omega)
      · rw [c2] at r1 hx
        rw [Bool.false_and] at hx
        repeat (first | refine qS ?_ | refine qB ?_ | refine qT rfl ?_ | refine qF rfl ?_ | ((first | refine qR rfl ?_ | refine qK ?_ | refine qE ?_ | refine qW ?_ | refine qM ?_); try simp -dsimp (maxSteps := 2000000) (disch := first | omega | (simp only [qZ] <;> omega) | fail) only [push_cast, ↓qP, ↓reduceIte, Nat.reduceEqDiff, Nat.reduceAdd, Nat.reduceMul, Nat.reduceSub, Nat.reduceLeDiff, Int.reduceToNat, reduceCtorEq, f1, f2, f3, f7, f8, c1]) | (refine qA ?_ ?_; (first | omega | (simp only [qL]; omega) | (simp only [qD] at *; omega))))
        refine Wp.draw [0, 0, 3, 7, 15, 31, 63, 31, 31, 415, 1023, 2047] [10] (.op 0 false false [] <| .op 1 false false [] <| .op 2 false false [] <| .op 3 false false [] <| .op 4 false false [] <| .op 5 false false [] <| .op 6 false false [] <| .op 7 false false [] <| .op 8 false false [] <| .op 9 false false [] <| .op 10 true false [] <| .op 11 false false [] <| .nil) mixed (by kernel_rfl) ?_
        simp -dsimp (maxSteps := 2000000) (disch := first | omega | (simp only [qZ] <;> omega) | fail) only [push_cast, ↓qP, ↓reduceIte, Nat.reduceEqDiff, Nat.reduceAdd, Nat.reduceMul, Nat.reduceSub, Nat.reduceLeDiff, Int.reduceToNat, reduceCtorEq, f1, f2, f3, f7, f8, r1]
        refine ⟨by omega, ?_⟩
        refine Sm.out ?_
        repeat (first | refine qS ?_ | refine qB ?_ | refine qT rfl ?_ | refine qF rfl ?_ | ((first | refine qR rfl ?_ | refine qK ?_ | refine qE ?_ | refine qW ?_ | refine qM ?_); try simp -dsimp (maxSteps := 2000000) (disch := first | omega | (simp only [qZ] <;> omega) | fail) only [push_cast, ↓qP, ↓reduceIte, Nat.reduceEqDiff, Nat.reduceAdd, Nat.reduceMul, Nat.reduceSub, Nat.reduceLeDiff, Int.reduceToNat, reduceCtorEq, f1, f2, f3, f7, f8]) | (refine qA ?_ ?_; (first | omega | (simp only [qL]; omega) | (simp only [qD] at *; omega))))
        exact Again.mk (j + 1) ⟨by omega, by simp [upd, f1], by simp [upd, f2], by simp [upd, f3], by simp [upd, f7], by simp [upd], hp1.drew, by rw [upto_skip _ _ hx]; exact hq1, k1.drew⟩ (by omega)
    · obtain rfl : j = l.length := by omega
      have c1 : decide ((l.length : Int) < (l.length : Int)) = false := decide_eq_false (by omega)
      rw [← hxl, upto_all] at hq1
      repeat (first | refine qS ?_ | refine qB ?_ | refine qT rfl ?_ | refine qF rfl ?_ | ((first | refine qR rfl ?_ | refine qK ?_ | refine qE ?_ | refine qW ?_ | refine qM ?_); try simp -dsimp (maxSteps := 2000000) (disch := first | omega | (simp only [qZ] <;> omega) | fail) only [push_cast, ↓qP, ↓reduceIte, Nat.reduceEqDiff, Nat.reduceAdd, Nat.reduceMul, Nat.reduceSub, Nat.reduceLeDiff, Int.reduceToNat, reduceCtorEq, f1, f2, f3, f7, f8, c1]) | (refine qA ?_ ?_; (first | omega | (simp only [qL]; omega) | (simp only [qD] at *; omega))))
      exact Mid.mk ⟨q, l.length + 1, by simp [upd, f7], blk_bs hq1, k1⟩
  rw [decide_eq_false c1] at e1
  rw [if_neg c1]
  by_cases c2 : op = opBol
  · rw [decide_eq_true c2] at e2
    rw [if_pos c2]
    have r1 := hbs1.2 0 (by omega)
    have hcell : rdc w1 q 0 = some (.bool ((noP l).getD 0 false)) := by rw [hq1.rdc]; exact bools_get _ _ (by omega)
    repeat (first | refine qS ?_ | refine qB ?_ | refine qT rfl ?_ | refine qF rfl ?_ | ((first | refine qR rfl ?_ | refine qK ?_ | refine qE ?_ | refine qW ?_ | refine qM ?_); try simp -dsimp (maxSteps := 2000000) (disch := first | omega | (simp only [qZ] <;> omega) | fail) only [push_cast, ↓qP, ↓reduceIte, Nat.reduceEqDiff, Nat.reduceAdd, Nat.reduceMul, Nat.reduceSub, Nat.reduceLeDiff, Int.reduceToNat, reduceCtorEq, hp1.rdc, e1, e2, r1, hcell, hq1.fz]) | (refine qA ?_ ?_; (first | omega | (simp only [qL]; omega) | (simp only [qD] at *; omega))))
    have hset := hq1.set 0 (.bool (fr.getD 0 false))
    rw [bools_set] at hset
    exact Mid.mk ⟨q, l.length + 1, by simp [upd, hq], blk_bs hset, k1.setCell (fun h => absurd h hqw) _⟩
  rw [decide_eq_false c2] at e2
  rw [if_neg c2]
  by_cases c3 : op = opEol
  · rw [decide_eq_true c3] at e3
    rw [if_pos c3]
    have r1 := hbs1.2 l.length (by omega)
    have hcell : rdc w1 q l.length = some (.bool ((noP l).getD l.length false)) := by rw [hq1.rdc]; exact bools_get _ _ (by omega)
    repeat (first | refine qS ?_ | refine qB ?_ | refine qT rfl ?_ | refine qF rfl ?_ | ((first | refine qR rfl ?_ | refine qK ?_ | refine qE ?_ | refine qW ?_ | refine qM ?_); try simp -dsimp (maxSteps := 2000000) (disch := first | omega | (simp only [qZ] <;> omega) | fail) only [push_cast, ↓qP, ↓reduceIte, Nat.reduceEqDiff, Nat.reduceAdd, Nat.reduceMul, Nat.reduceSub, Nat.reduceLeDiff, Int.reduceToNat, reduceCtorEq, hp1.rdc, e1, e2, e3, r1, hcell, hq1.fz]) | (refine qA ?_ ?_; (first | omega | (simp only [qL]; omega) | (simp only [qD] at *; omega))))
    have hset := hq1.set l.length (.bool (fr.getD l.length false))
    rw [bools_set] at hset
    exact Mid.mk ⟨q, l.length + 1, by simp [upd, hq], blk_bs hset, k1.setCell (fun h => absurd h hqw) _⟩
  rw [decide_eq_false c3] at e3
  rw [if_neg c3]
  by_cases c4 : op = opCat
  · rw [decide_eq_true c4] at e6
    rw [if_pos c4]
    repeat (first | refine qS ?_ | refine qB ?_ | refine qT rfl ?_ | refine qF rfl ?_ | ((first | refine qR rfl ?_ | refine qK ?_ | refine qE ?_ | refine qW ?_ | refine qM ?_); try simp -dsimp (maxSteps := 2000000) (disch := first | omega | (simp only [qZ] <;> omega) | fail) only [push_cast, ↓qP, ↓reduceIte, Nat.reduceEqDiff, Nat.reduceAdd, Nat.reduceMul, Nat.reduceSub, Nat.reduceLeDiff, Int.reduceToNat, reduceCtorEq, hp1.rdc, e1, e2, e3, e6]) | (refine qA ?_ ?_; (first | omega | (simp only [qL]; omega) | (simp only [qD] at *; omega))))
    refine Wp.loop (α := Nat) (fun j F W => j ≤ kids.length ∧ F 1 = .string (B l) ∧ F 3 = .pointer (some ⟨p, 0, none⟩) ∧ F 9 = .int .i64 j ∧ Blk W p 33 [.string (B op), .string (B set), .slice A kids.length cc, .int .i64 lo, .int .i64 hi] ∧ Kp (fun _ => False) w W ∧ ∃ b c, F 7 = .slice (some ⟨b, 0, none⟩) (l.length + 1) c ∧ Bs W b (endsCat l (kids.take j) fr)) (fun j => kids.length - j) 0
      ⟨Nat.zero_le _, by simp [upd, arg], by simp [upd, hp], by simp [upd], hp1, k1, b, c, by simp [upd, arg], by simpa [endsCat] using hbs1⟩ ?_
    clear k1 hp1 hq1 hbs1 hltp hltq hltb
    rintro j F W ⟨hj, f1, f3, f9, hp1, k1, b, c, f7, hb⟩
    have hltp := hp1.lt
    rcases Nat.lt_or_ge j kids.length with hlt | hge
    · have c1 : decide ((j : Int) < (kids.length : Int)) = true := decide_eq_true (by omega)
      have hget : kids[j]? = some kids[j] := (List.getElem?_eq_getElem hlt)
      obtain ⟨kb, o, d0, d1, A1, m1, d2, lo1, hi1, rfl, hbl, hD, q0, q1, q2, q3, q4, hre, _⟩ := h.kid k1 hget
      have hmem : kids[j] ∈ kids := List.mem_of_getElem? hget
      have hgj := Goods_mem hgk hmem
      have hwj := wts_mem hmem
      have hlen := (endsCat_spec l (kids.take j) (Goods_take hgk j) fr hfr).1
      repeat (first | refine qS ?_ | refine qB ?_ | refine qT rfl ?_ | refine qF rfl ?_ | ((first | refine qR rfl ?_ | refine qK ?_ | refine qE ?_ | refine qW ?_ | refine qM ?_); try simp -dsimp (maxSteps := 2000000) (disch := first | omega | (simp only [qZ] <;> omega) | fail) only [push_cast, ↓qP, ↓reduceIte, Nat.reduceEqDiff, Nat.reduceAdd, Nat.reduceMul, Nat.reduceSub, Nat.reduceLeDiff, Int.reduceToNat, reduceCtorEq, f1, f3, f9, f7, hp1.rdc, c1, q0, q1, q2, q3, q4]) | (refine qA ?_ ?_; (first | omega | (simp only [qL]; omega) | (simp only [qD] at *; omega))))
      refine CallV.of isCall_62 (ih _ hmem hgj (by omega) W _ b c _ hre hlen hb) ?_
      rintro _ W2 ⟨b2, cap2, rfl, hb2, k2⟩
      refine Sm.out ?_
      repeat (first | refine qS ?_ | refine qB ?_ | refine qT rfl ?_ | refine qF rfl ?_ | ((first | refine qR rfl ?_ | refine qK ?_ | refine qE ?_ | refine qW ?_ | refine qM ?_); try simp -dsimp (maxSteps := 2000000) (disch := first | omega | (simp only [qZ] <;> omega) | fail) only [push_cast, ↓qP, ↓reduceIte, Nat.reduceEqDiff, Nat.reduceAdd, Nat.reduceMul, Nat.reduceSub, Nat.reduceLeDiff, Int.reduceToNat, reduceCtorEq, f1, f3, f9]) | (refine qA ?_ ?_; (first | omega | (simp only [qL]; omega) | (simp only [qD] at *; omega))))
      exact Again.mk (j + 1) ⟨by omega, by simp [upd, f1], by simp [upd, f3], by simp [upd], k2.Blk hp1 id, k1.trans k2, b2, cap2, by simp [upd], by rw [List.take_succ_eq_append_getElem hlt, endsCat_snoc]; exact hb2⟩ (by omega)
    · obtain rfl : j = kids.length := by omega
      have c1 : decide ((kids.length : Int) < (kids.length : Int)) = false := decide_eq_false (by omega)
      rw [List.take_length] at hb
      repeat (first | refine qS ?_ | refine qB ?_ | refine qT rfl ?_ | refine qF rfl ?_ | ((first | refine qR rfl ?_ | refine qK ?_ | refine qE ?_ | refine qW ?_ | refine qM ?_); try simp -dsimp (maxSteps := 2000000) (disch := first | omega | (simp only [qZ] <;> omega) | fail) only [push_cast, ↓qP, ↓reduceIte, Nat.reduceEqDiff, Nat.reduceAdd, Nat.reduceMul, Nat.reduceSub, Nat.reduceLeDiff, Int.reduceToNat, reduceCtorEq, f1, f3, f9, hp1.rdc, c1]) | (refine qA ?_ ?_; (first | omega | (simp only [qL]; omega) | (simp only [qD] at *; omega))))
      exact Mid.mk ⟨b, c, by simp [upd, f7], hb, k1⟩
  rw [decide_eq_false c4] at e6
  rw [if_neg c4]
  by_cases c5 : op = opAlt
  · rw [decide_eq_true c5] at e4
    rw [if_pos c5]
    repeat (first | refine qS ?_ | refine qB ?_ | refine qT rfl ?_ | refine qF rfl ?_ | ((first | refine qR rfl ?_ | refine qK ?_ | refine qE ?_ | refine qW ?_ | refine qM ?_); try simp -dsimp (maxSteps := 2000000) (disch := first | omega | (simp only [qZ] <;> omega) | fail) only [push_cast, ↓qP, ↓reduceIte, Nat.reduceEqDiff, Nat.reduceAdd, Nat.reduceMul, Nat.reduceSub, Nat.reduceLeDiff, Int.reduceToNat, reduceCtorEq, hp1.rdc, e1, e2, e3, e6, e4]) | (refine qA ?_ ?_; (first | omega | (simp only [qL]; omega) | (simp only [qD] at *; omega))))
    refine Wp.loop (α := Nat) (fun j F W => j ≤ kids.length ∧ F 1 = .string (B l) ∧ F 2 = .slice (some ⟨b, 0, none⟩) (l.length + 1) c ∧ F 3 = .pointer (some ⟨p, 0, none⟩) ∧ F 10 = .int .i64 j ∧ Blk W p 33 [.string (B op), .string (B set), .slice A kids.length cc, .int .i64 lo, .int .i64 hi] ∧ Kp (fun _ => False) w W ∧ ∃ b c, F 7 = .slice (some ⟨b, 0, none⟩) (l.length + 1) c ∧ Bs W b (endsAlt l (kids.take j) fr (noP l))) (fun j => kids.length - j) 0
      ⟨Nat.zero_le _, by simp [upd, arg], by simp [upd, arg], by simp [upd, hp], by simp [upd], hp1, k1, q, l.length + 1, by simp [upd, hq], by simpa [endsAlt] using blk_bs hq1⟩ ?_
    clear hp1 hq1 hbs1 hltp hltq hltb k1
    rintro j F W ⟨hj, f1, f2, f3, f10, hp1, k1, b', c', f7, hb⟩
    have hltp := hp1.lt
    rcases Nat.lt_or_ge j kids.length with hlt | hge
    · have c1 : decide ((j : Int) < (kids.length : Int)) = true := decide_eq_true (by omega)
      have hget : kids[j]? = some kids[j] := (List.getElem?_eq_getElem hlt)
      obtain ⟨kb, o, d0, d1, A1, m1, d2, lo1, hi1, rfl, hbl, hD, q0, q1, q2, q3, q4, hre, _⟩ := h.kid k1 hget
      have hmem : kids[j] ∈ kids := List.mem_of_getElem? hget
      have hgj := Goods_mem hgk hmem
      have hwj := wts_mem hmem
      have hlen := (endsAlt_spec l (kids.take j) (Goods_take hgk j) fr (noP l) hfr hN).1
      have hlen2 := ends3_len l _ hgj fr hfr
      have hbs1 := hbs.Kp k1
      repeat (first | refine qS ?_ | refine qB ?_ | refine qT rfl ?_ | refine qF rfl ?_ | ((first | refine qR rfl ?_ | refine qK ?_ | refine qE ?_ | refine qW ?_ | refine qM ?_); try simp -dsimp (maxSteps := 2000000) (disch := first | omega | (simp only [qZ] <;> omega) | fail) only [push_cast, ↓qP, ↓reduceIte, Nat.reduceEqDiff, Nat.reduceAdd, Nat.reduceMul, Nat.reduceSub, Nat.reduceLeDiff, Int.reduceToNat, reduceCtorEq, f1, f2, f3, f10, f7, hp1.rdc, c1, q0, q1, q2, q3, q4]) | (refine qA ?_ ?_; (first | omega | (simp only [qL]; omega) | (simp only [qD] at *; omega))))
      refine CallV.of isCall_62 (ih _ hmem hgj (by omega) W _ b c _ hre hfr hbs1) ?_
      rintro _ W2 ⟨b2, cap2, rfl, hb2, k2⟩
      have hb' := hb.Kp k2
      have hboth := both_any (c := c') (d := cap2) hb' hb2 (by omega) (by omega)
      rw [hlen, hlen2] at hboth
      refine Sm.out ?_
      repeat (first | refine qS ?_ | refine qB ?_ | refine qT rfl ?_ | refine qF rfl ?_ | ((first | refine qR rfl ?_ | refine qK ?_ | refine qE ?_ | refine qW ?_ | refine qM ?_); try simp -dsimp (maxSteps := 2000000) (disch := first | omega | (simp only [qZ] <;> omega) | fail) only [push_cast, ↓qP, ↓reduceIte, Nat.reduceEqDiff, Nat.reduceAdd, Nat.reduceMul, Nat.reduceSub, Nat.reduceLeDiff, Int.reduceToNat, reduceCtorEq, f1, f2, f3, f10, f7]) | (refine qA ?_ ?_; (first | omega | (simp only [qL]; omega) | (simp only [qD] at *; omega))))
      refine CallV.of isCall_78 hboth ?_
      rintro _ W3 ⟨rfl, hb3, k3⟩
      refine Sm.out ?_
      repeat (first | refine qS ?_ | refine qB ?_ | refine qT rfl ?_ | refine qF rfl ?_ | ((first | refine qR rfl ?_ | refine qK ?_ | refine qE ?_ | refine qW ?_ | refine qM ?_); try simp -dsimp (maxSteps := 2000000) (disch := first | omega | (simp only [qZ] <;> omega) | fail) only [push_cast, ↓qP, ↓reduceIte, Nat.reduceEqDiff, Nat.reduceAdd, Nat.reduceMul, Nat.reduceSub, Nat.reduceLeDiff, Int.reduceToNat, reduceCtorEq, f1, f2, f3, f10, f7]) | (refine qA ?_ ?_; (first | omega | (simp only [qL]; omega) | (simp only [qD] at *; omega))))
      exact Again.mk (j + 1) ⟨by omega, by simp [upd, f1], by simp [upd, f2], by simp [upd, f3], by simp [upd], (k2.trans k3).Blk hp1 id, k1.trans (k2.trans k3), W2.heap.size, l.length + 1, by simp [upd], by rw [List.take_succ_eq_append_getElem hlt, endsAlt_snoc]; exact blk_bs hb3⟩ (by omega)
    · obtain rfl : j = kids.length := by omega
      have c1 : decide ((kids.length : Int) < (kids.length : Int)) = false := decide_eq_false (by omega)
      rw [List.take_length] at hb
      repeat (first | refine qS ?_ | refine qB ?_ | refine qT rfl ?_ | refine qF rfl ?_ | ((first | refine qR rfl ?_ | refine qK ?_ | refine qE ?_ | refine qW ?_ | refine qM ?_); try simp -dsimp (maxSteps := 2000000) (disch := first | omega | (simp only [qZ] <;> omega) | fail) only [push_cast, ↓qP, ↓reduceIte, Nat.reduceEqDiff, Nat.reduceAdd, Nat.reduceMul, Nat.reduceSub, Nat.reduceLeDiff, Int.reduceToNat, reduceCtorEq, f1, f3, f10, hp1.rdc, c1]) | (refine qA ?_ ?_; (first | omega | (simp only [qL]; omega) | (simp only [qD] at *; omega))))
      exact Mid.mk ⟨b', c', by simp [upd, f7], hb, k1⟩
  rw [decide_eq_false c5] at e4
  rw [if_neg c5]
  by_cases c6 : op = opRep
  · rw [decide_eq_true c6] at e5
    rw [if_pos c6]
    obtain ⟨b1, b2, b3, b4, b5, b6⟩ := hgb.out c6
    repeat (first | refine qS ?_ | refine qB ?_ | refine qT rfl ?_ | refine qF rfl ?_ | ((first | refine qR rfl ?_ | refine qK ?_ | refine qE ?_ | refine qW ?_ | refine qM ?_); try simp -dsimp (maxSteps := 2000000) (disch := first | omega | (simp only [qZ] <;> omega) | fail) only [push_cast, ↓qP, ↓reduceIte, Nat.reduceEqDiff, Nat.reduceAdd, Nat.reduceMul, Nat.reduceSub, Nat.reduceLeDiff, Int.reduceToNat, reduceCtorEq, hp1.rdc, e1, e2, e3, e6, e4, e5]) | (refine qA ?_ ?_; (first | omega | (simp only [qL]; omega) | (simp only [qD] at *; omega))))
    obtain ⟨k0, rfl⟩ : ∃ k0, kids = [k0] := by
      match kids, b6 with
      | [k0], _ => exact ⟨k0, rfl⟩
    obtain ⟨n0, rfl⟩ : ∃ n0 : Nat, lo = n0 := ⟨lo.toNat, by omega⟩
    have hn0 : ((n0 : Int)).toNat = n0 := by omega
    have hgk0 : Good k0 := by simp only [Goods] at hgk; exact hgk.1
    have hf := ends3_spec l k0 hgk0
    clear hgb hN
    refine Wp.loop (α := Nat) (fun j F W => j ≤ n0 ∧ F 1 = .string (B l) ∧ F 3 = .pointer (some ⟨p, 0, none⟩) ∧ F 12 = .int .i64 j ∧ Blk W p 33 [.string (B op), .string (B set), .slice A 1 cc, .int .i64 n0, .int .i64 hi] ∧ Kp (fun _ => False) w W ∧ ∃ b c, F 11 = .slice (some ⟨b, 0, none⟩) (l.length + 1) c ∧ Bs W b (iterE (ends3 l k0) j fr)) (fun j => n0 - j) 0
      ⟨Nat.zero_le _, by simp [upd, arg], by simp [upd, hp], by simp [upd], hp1, k1, b, c, by simp [upd, arg], hbs1⟩ ?_
    clear k1 hp1 hq1 hbs1 hltp hltq hltb
    rintro j F W ⟨hj, f1, f3, f12, hp1, k1, b, c, f11, hb⟩
    have hltp := hp1.lt
    have hget : [k0][0]? = some k0 := rfl
    obtain ⟨kb, o, d0, d1, A1, m1, d2, lo1, hi1, rfl, hbl, hD, q0, q1, q2, q3, q4, hre, _⟩ := h.kid k1 hget
    have hmem : k0 ∈ [k0] := by simp
    have hgj := hgk0
    have hwj := wts_mem hmem
    have hlen := (hf.iter j fr hfr).1
    simp only [Nat.zero_mul, Nat.add_zero] at q0 q1 q2 q3 q4
    rcases Nat.lt_or_ge j n0 with hlt | hge
    · have c1 : decide ((j : Int) < (n0 : Int)) = true := decide_eq_true (by omega)
      repeat (first | refine qS ?_ | refine qB ?_ | refine qT rfl ?_ | refine qF rfl ?_ | ((first | refine qR rfl ?_ | refine qK ?_ | refine qE ?_ | refine qW ?_ | refine qM ?_); try simp -dsimp (maxSteps := 2000000) (disch := first | omega | (simp only [qZ] <;> omega) | fail) only [push_cast, ↓qP, ↓reduceIte, Nat.reduceEqDiff, Nat.reduceAdd, Nat.reduceMul, Nat.reduceSub, Nat.reduceLeDiff, Int.reduceToNat, reduceCtorEq, f1, f3, f12, f11, hp1.rdc, c1, q0, q1, q2, q3, q4]) | (refine qA ?_ ?_; (first | omega | (simp only [qL]; omega) | (simp only [qD] at *; omega))))
      refine CallV.of isCall_62 (ih _ hmem hgj (by omega) W _ b c _ hre hlen hb) ?_
      rintro _ W2 ⟨b2, cap2, rfl, hb2, k2⟩
      refine Sm.out ?_
      repeat (first | refine qS ?_ | refine qB ?_ | refine qT rfl ?_ | refine qF rfl ?_ | ((first | refine qR rfl ?_ | refine qK ?_ | refine qE ?_ | refine qW ?_ | refine qM ?_); try simp -dsimp (maxSteps := 2000000) (disch := first | omega | (simp only [qZ] <;> omega) | fail) only [push_cast, ↓qP, ↓reduceIte, Nat.reduceEqDiff, Nat.reduceAdd, Nat.reduceMul, Nat.reduceSub, Nat.reduceLeDiff, Int.reduceToNat, reduceCtorEq, f1, f3, f12, f11]) | (refine qA ?_ ?_; (first | omega | (simp only [qL]; omega) | (simp only [qD] at *; omega))))
      exact Again.mk (j + 1) ⟨by omega, by simp [upd, f1], by simp [upd, f3], by simp [upd], k2.Blk hp1 id, k1.trans k2, b2, cap2, by simp [upd], by rw [iterE_succ]; exact hb2⟩ (by omega)
    obtain rfl : j = n0 := by omega
    have c1 : decide ((j : Int) < (j : Int)) = false := decide_eq_false (by omega)
    repeat (first | refine qS ?_ | refine qB ?_ | refine qT rfl ?_ | refine qF rfl ?_ | ((first | refine qR rfl ?_ | refine qK ?_ | refine qE ?_ | refine qW ?_ | refine qM ?_); try simp -dsimp (maxSteps := 2000000) (disch := first | omega | (simp only [qZ] <;> omega) | fail) only [push_cast, ↓qP, ↓reduceIte, Nat.reduceEqDiff, Nat.reduceAdd, Nat.reduceMul, Nat.reduceSub, Nat.reduceLeDiff, Int.reduceToNat, reduceCtorEq, f1, f3, f12, f11, hp1.rdc, c1]) | (refine qA ?_ ?_; (first | omega | (simp only [qL]; omega) | (simp only [qD] at *; omega))))
    generalize hx0 : iterE (ends3 l k0) j fr = x0 at *
    have hres : endsRep l [k0] j hi fr = if hi < 0 then starE (ends3 l k0) (l.length + 2) x0 else boundE (ends3 l k0) (hi - j).toNat x0 x0 := by
      simp only [endsRep, hn0, hx0]
    by_cases hneg : hi < 0
    · obtain rfl : hi = -1 := by omega
      rw [if_pos hneg] at hres
      rw [hres]
      obtain ⟨R, hR⟩ : ∃ R, R = starE (ends3 l k0) (l.length + 2) x0 := ⟨_, rfl⟩
      rw [← hR]
      clear hres
      refine Wp.loop (α := Nat) (fun m F W => F 1 = .string (B l) ∧ F 3 = .pointer (some ⟨p, 0, none⟩) ∧ Blk W p 33 [.string (B op), .string (B set), .slice (some ⟨kb, o, none⟩) 1 cc, .int .i64 j, .int .i64 (-1)] ∧ Kp (fun _ => False) w W ∧ ∃ k : Nat, ∃ out b1 c1 b2 c2, F 13 = .int .i64 k ∧ k + m = j + (l.length + 2) ∧ F 11 = .slice (some ⟨b1, 0, none⟩) (l.length + 1) c1 ∧ F 7 = .slice (some ⟨b2, 0, none⟩) (l.length + 1) c2 ∧ Bs W b1 out ∧ Bs W b2 out ∧ out.length = l.length + 1 ∧ l.length + 1 < cnt out + m ∧ Hide (starE (ends3 l k0) m out = R)) (fun m => m) (l.length + 2)
        ⟨by simp [upd, f1], by simp [upd, f3], hp1, k1, j, x0, b, c, b, c, by simp [upd], rfl, by simp [upd, f11], by simp [upd, f11], hb, hb, hlen, by omega, ⟨hR.symm⟩⟩ ?_
      clear hp1 k1 hb f1 f3 f12 f11 hltp q0 q1 q2 q3 q4 hre
      rintro m F W ⟨f1, f3, hp1, k1, k, out, b1, c1, b2, c2, f13, hkm, f11, f7, hb1, hb2, hol, hcnt, hst⟩
      have hltp := hp1.lt
      obtain ⟨m, rfl⟩ : ∃ m', m = m' + 1 := ⟨m - 1, by have := cnt_le out; omega⟩
      obtain ⟨kb', o', d0, d1, A1, m1, d2, lo1, hi1, hA, hbl, hD', q0, q1, q2, q3, q4, hre, _⟩ := h.kid k1 hget
      injection hA with hA
      injection hA with hA1 hA2
      subst hA1; subst hA2
      simp only [Nat.zero_mul, Nat.add_zero] at q0 q1 q2 q3 q4
      have c1' : ((k : Int) != -1) = true := by simp <;> omega
      have hlen3 := ends3_len l _ hgk0 out hol
      repeat (first | refine qS ?_ | refine qB ?_ | refine qT rfl ?_ | refine qF rfl ?_ | ((first | refine qR rfl ?_ | refine qK ?_ | refine qE ?_ | refine qW ?_ | refine qM ?_); try simp -dsimp (maxSteps := 2000000) (disch := first | omega | (simp only [qZ] <;> omega) | fail) only [push_cast, ↓qP, ↓reduceIte, Nat.reduceEqDiff, Nat.reduceAdd, Nat.reduceMul, Nat.reduceSub, Nat.reduceLeDiff, Int.reduceToNat, reduceCtorEq, f1, f3, f13, f11, hp1.rdc, c1', q0, q1, q2, q3, q4]) | (refine qA ?_ ?_; (first | omega | (simp only [qL]; omega) | (simp only [qD] at *; omega))))
      refine CallV.of isCall_62 (ih _ hmem hgj (by omega) W _ b1 c1 _ hre hol hb1) ?_
      rintro _ W2 ⟨b3, cap3, rfl, hb3, k2⟩
      have hboth := both_any (c := c2) (d := cap3) (hb2.Kp k2) hb3 (by omega) (by omega)
      rw [hol, hlen3] at hboth
      refine Sm.out ?_
      repeat (first | refine qS ?_ | refine qB ?_ | refine qT rfl ?_ | refine qF rfl ?_ | ((first | refine qR rfl ?_ | refine qK ?_ | refine qE ?_ | refine qW ?_ | refine qM ?_); try simp -dsimp (maxSteps := 2000000) (disch := first | omega | (simp only [qZ] <;> omega) | fail) only [push_cast, ↓qP, ↓reduceIte, Nat.reduceEqDiff, Nat.reduceAdd, Nat.reduceMul, Nat.reduceSub, Nat.reduceLeDiff, Int.reduceToNat, reduceCtorEq, f1, f3, f13, f7]) | (refine qA ?_ ?_; (first | omega | (simp only [qL]; omega) | (simp only [qD] at *; omega))))
      refine CallV.of isCall_78 hboth ?_
      rintro _ W3 ⟨rfl, hb4, k3⟩
      have hlen4 : (orB out (ends3 l k0 out)).length = l.length + 1 := by rw [orB_len (by omega)]; exact hol
      have hp3 := (k2.trans k3).Blk hp1 id
      have hltp3 := hp3.lt
      have hsame := same_any (c := l.length + 1) (d := c2) (blk_bs hb4) (hb2.Kp (k2.trans k3)) (by omega) (by omega)
      rw [hlen4, hol] at hsame
      have c0 : decide ((-1 : Int) < 0) = true := rfl
      refine Sm.out ?_
      repeat (first | refine qS ?_ | refine qB ?_ | refine qT rfl ?_ | refine qF rfl ?_ | ((first | refine qR rfl ?_ | refine qK ?_ | refine qE ?_ | refine qW ?_ | refine qM ?_); try simp -dsimp (maxSteps := 2000000) (disch := first | omega | (simp only [qZ] <;> omega) | fail) only [push_cast, ↓qP, ↓reduceIte, Nat.reduceEqDiff, Nat.reduceAdd, Nat.reduceMul, Nat.reduceSub, Nat.reduceLeDiff, Int.reduceToNat, reduceCtorEq, f1, f3, f13, f7, hp3.rdc, c0]) | (refine qA ?_ ?_; (first | omega | (simp only [qL]; omega) | (simp only [qD] at *; omega))))
      refine CallV.of isCall_79 hsame ?_
      rintro _ W4 ⟨rfl, k4⟩
      have hp4 := k4.Blk hp3 id
      have hltp4 := hp4.lt
      have hst1 := hst.out
      simp only [starE] at hst1
      by_cases hst2 : orB out (ends3 l k0 out) = out
      · rw [if_pos hst2] at hst1
        have c3 : decide (orB out (ends3 l k0 out) = out) = true := decide_eq_true hst2
        refine Sm.out ?_
        repeat (first | refine qS ?_ | refine qB ?_ | refine qT rfl ?_ | refine qF rfl ?_ | ((first | refine qR rfl ?_ | refine qK ?_ | refine qE ?_ | refine qW ?_ | refine qM ?_); try simp -dsimp (maxSteps := 2000000) (disch := first | omega | (simp only [qZ] <;> omega) | fail) only [push_cast, ↓qP, ↓reduceIte, Nat.reduceEqDiff, Nat.reduceAdd, Nat.reduceMul, Nat.reduceSub, Nat.reduceLeDiff, Int.reduceToNat, reduceCtorEq, f1, f3, f13, f7, hp4.rdc, c3, c0]) | (refine qA ?_ ?_; (first | omega | (simp only [qL]; omega) | (simp only [qD] at *; omega))))
        exact Mid.mk ⟨b2, c2, by simp [upd, f7], by rw [← hst1]; exact hb2.Kp (k2.trans (k3.trans k4)), k1.trans (k2.trans (k3.trans k4))⟩
      · rw [if_neg hst2] at hst1
        have c3 : decide (orB out (ends3 l k0 out) = out) = false := decide_eq_false hst2
        have hcnt2 := cnt_lt (a := out) (b := orB out (ends3 l k0 out)) (by rw [orB_len (by omega)]) (fun j hj => (In_orB (by omega) j).2 (.inl hj)) (Ne.symm hst2)
        have hb5 := (blk_bs hb4).Kp k4
        refine Sm.out ?_
        repeat (first | refine qS ?_ | refine qB ?_ | refine qT rfl ?_ | refine qF rfl ?_ | ((first | refine qR rfl ?_ | refine qK ?_ | refine qE ?_ | refine qW ?_ | refine qM ?_); try simp -dsimp (maxSteps := 2000000) (disch := first | omega | (simp only [qZ] <;> omega) | fail) only [push_cast, ↓qP, ↓reduceIte, Nat.reduceEqDiff, Nat.reduceAdd, Nat.reduceMul, Nat.reduceSub, Nat.reduceLeDiff, Int.reduceToNat, reduceCtorEq, f1, f3, f13, f7, hp4.rdc, c3, c0]) | (refine qA ?_ ?_; (first | omega | (simp only [qL]; omega) | (simp only [qD] at *; omega))))
        exact Again.mk m ⟨by simp [upd, f1], by simp [upd, f3], hp4, k1.trans (k2.trans (k3.trans k4)), k + 1, _, W2.heap.size, l.length + 1, W2.heap.size, l.length + 1, by simp [upd], by omega, by simp [upd], by simp [upd], hb5, hb5, hlen4, by omega, ⟨hst1⟩⟩ (by omega)
    · rw [if_neg hneg] at hres
      rw [hres]
      obtain ⟨R, hR⟩ : ∃ R, R = boundE (ends3 l k0) (hi - j).toNat x0 x0 := ⟨_, rfl⟩
      rw [← hR]
      clear hres
      have hhi : (j : Int) ≤ hi := by omega
      refine Wp.loop (α := Nat) (fun m F W => F 1 = .string (B l) ∧ F 3 = .pointer (some ⟨p, 0, none⟩) ∧ Blk W p 33 [.string (B op), .string (B set), .slice (some ⟨kb, o, none⟩) 1 cc, .int .i64 j, .int .i64 hi] ∧ Kp (fun _ => False) w W ∧ ∃ ab out b1 c1 b2 c2, F 13 = .int .i64 (hi - (m : Int)) ∧ m ≤ (hi - j).toNat ∧ F 11 = .slice (some ⟨b1, 0, none⟩) (l.length + 1) c1 ∧ F 7 = .slice (some ⟨b2, 0, none⟩) (l.length + 1) c2 ∧ Bs W b1 ab ∧ Bs W b2 out ∧ ab.length = l.length + 1 ∧ out.length = l.length + 1 ∧ Hide (boundE (ends3 l k0) m ab out = R)) (fun m => m) (hi - j).toNat
        ⟨by simp [upd, f1], by simp [upd, f3], hp1, k1, x0, x0, b, c, b, c, by simp [upd]; omega, Nat.le_refl _, by simp [upd, f11], by simp [upd, f11], hb, hb, hlen, hlen, ⟨hR.symm⟩⟩ ?_
      clear hp1 k1 hb f1 f3 f12 f11 hltp q0 q1 q2 q3 q4 hre
      rintro m F W ⟨f1, f3, hp1, k1, ab, out, b1, c1, b2, c2, f13, hkm, f11, f7, hb1, hb2, hal, hol, hst⟩
      have hltp := hp1.lt
      rcases Nat.eq_zero_or_pos m with hm | hm
      · subst hm
        have hst1 := hst.out
        simp only [boundE] at hst1
        have c1' : ((hi - 0) != hi) = false := by simp
        repeat (first | refine qS ?_ | refine qB ?_ | refine qT rfl ?_ | refine qF rfl ?_ | ((first | refine qR rfl ?_ | refine qK ?_ | refine qE ?_ | refine qW ?_ | refine qM ?_); try simp -dsimp (maxSteps := 2000000) (disch := first | omega | (simp only [qZ] <;> omega) | fail) only [push_cast, ↓qP, ↓reduceIte, Nat.reduceEqDiff, Nat.reduceAdd, Nat.reduceMul, Nat.reduceSub, Nat.reduceLeDiff, Int.reduceToNat, reduceCtorEq, f1, f3, f13, hp1.rdc, c1']) | (refine qA ?_ ?_; (first | omega | (simp only [qL]; omega) | (simp only [qD] at *; omega))))
        exact Mid.mk ⟨b2, c2, by simp [upd, f7], by rw [← hst1]; exact hb2, k1⟩
      obtain ⟨m, rfl⟩ : ∃ m', m = m' + 1 := ⟨m - 1, by omega⟩
      obtain ⟨kb', o', d0, d1, A1, m1, d2, lo1, hi1, hA, hbl, hD', q0, q1, q2, q3, q4, hre, _⟩ := h.kid k1 hget
      injection hA with hA
      injection hA with hA1 hA2
      subst hA1; subst hA2
      simp only [Nat.zero_mul, Nat.add_zero] at q0 q1 q2 q3 q4
      generalize hkk : hi - ((m + 1 : Nat) : Int) = kk at *
      have c1' : (kk != hi) = true := by simp; omega
      have c2' : decide (hi < 0) = false := decide_eq_false hneg
      have hlen3 := ends3_len l _ hgk0 ab hal
      repeat (first | refine qS ?_ | refine qB ?_ | refine qT rfl ?_ | refine qF rfl ?_ | ((first | refine qR rfl ?_ | refine qK ?_ | refine qE ?_ | refine qW ?_ | refine qM ?_); try simp -dsimp (maxSteps := 2000000) (disch := first | omega | (simp only [qZ] <;> omega) | fail) only [push_cast, ↓qP, ↓reduceIte, Nat.reduceEqDiff, Nat.reduceAdd, Nat.reduceMul, Nat.reduceSub, Nat.reduceLeDiff, Int.reduceToNat, reduceCtorEq, f1, f3, f13, f11, hp1.rdc, c1', q0, q1, q2, q3, q4]) | (refine qA ?_ ?_; (first | omega | (simp only [qL]; omega) | (simp only [qD] at *; omega))))
      refine CallV.of isCall_62 (ih _ hmem hgj (by omega) W _ b1 c1 _ hre hal hb1) ?_
      rintro _ W2 ⟨b3, cap3, rfl, hb3, k2⟩
      have hboth := both_any (c := c2) (d := cap3) (hb2.Kp k2) hb3 (by omega) (by omega)
      rw [hol, hlen3] at hboth
      refine Sm.out ?_
      repeat (first | refine qS ?_ | refine qB ?_ | refine qT rfl ?_ | refine qF rfl ?_ | ((first | refine qR rfl ?_ | refine qK ?_ | refine qE ?_ | refine qW ?_ | refine qM ?_); try simp -dsimp (maxSteps := 2000000) (disch := first | omega | (simp only [qZ] <;> omega) | fail) only [push_cast, ↓qP, ↓reduceIte, Nat.reduceEqDiff, Nat.reduceAdd, Nat.reduceMul, Nat.reduceSub, Nat.reduceLeDiff, Int.reduceToNat, reduceCtorEq, f1, f3, f13, f7]) | (refine qA ?_ ?_; (first | omega | (simp only [qL]; omega) | (simp only [qD] at *; omega))))
      refine CallV.of isCall_78 hboth ?_
      rintro _ W3 ⟨rfl, hb4, k3⟩
      have hlen4 : (orB out (ends3 l k0 ab)).length = l.length + 1 := by rw [orB_len (by omega)]; exact hol
      have hp3 := (k2.trans k3).Blk hp1 id
      have hltp3 := hp3.lt
      have hst1 := hst.out
      simp only [boundE] at hst1
      refine Sm.out ?_
      repeat (first | refine qS ?_ | refine qB ?_ | refine qT rfl ?_ | refine qF rfl ?_ | ((first | refine qR rfl ?_ | refine qK ?_ | refine qE ?_ | refine qW ?_ | refine qM ?_); try simp -dsimp (maxSteps := 2000000) (disch := first | omega | (simp only [qZ] <;> omega) | fail) only [push_cast, ↓qP, ↓reduceIte, Nat.reduceEqDiff, Nat.reduceAdd, Nat.reduceMul, Nat.reduceSub, Nat.reduceLeDiff, Int.reduceToNat, reduceCtorEq, f1, f3, f13, f7, hp3.rdc, c2']) | (refine qA ?_ ?_; (first | omega | (simp only [qL]; omega) | (simp only [qD] at *; omega))))
      exact Again.mk m ⟨by simp [upd, f1], by simp [upd, f3], hp3, k1.trans (k2.trans k3), _, _, b3, cap3, W2.heap.size, l.length + 1, by simp [upd]; omega, by omega, by simp [upd], by simp [upd], hb3.Kp k3, blk_bs hb4, hlen3, hlen4, ⟨hst1⟩⟩ (by omega)
  exfalso
  simp only [Good] at hg
  rcases hg with ⟨h, _⟩ | ⟨h, _⟩ | ⟨h, _⟩ | ⟨h, _⟩ | ⟨h, _⟩ | ⟨h, _⟩ <;> contradiction
end
end Go.Proofs.Ytddichibegppjaa

/- The reference's matcher: Find, Whole. -/
namespace Go.Proofs.Ytddichibegppjaa
open Go Go.VC

/-- The last place of a set below one, from another on. -/
def scan (x : List Bool) (i : Nat) : Nat → Option Nat
  | 0 => none
  | k + 1 => if k < i then none else if x.getD k false = true then some k else scan x i k
def find3 (e : Re) (l : List UInt8) : Nat → Nat → Option (Nat × Nat)
  | 0, _ => none
  | f + 1, i => match scan (ends3 l e ((noP l).set i true)) i (l.length + 1) with
    | some j => some (i, j - i)
    | none => find3 e l f (i + 1)
def trip (r : Option (Nat × Nat)) : Value := match r with | some (i, n) => .tuple #[.int .i64 (i : Int), .int .i64 (n : Int), .bool true] | none => .tuple #[.int .i64 0, .int .i64 0, .bool false]
def findI (e : Re) (l : List UInt8) (i : Int) : Option (Nat × Nat) := if i < 0 then none else find3 e l (l.length + 1 - i.toNat) i.toNat

section
variable {D : Nat → Prop} {l : List UInt8} {e : Re} {w : World} {cs : List Value}

theorem find3_any (hl : l.length ≤ 1000000) (hg : Good e) (hwt : wt e ≤ 1000000000) (h : IsRe w D e cs) (i : Int) (hi : -9223372036854775808 ≤ i ∧ i ≤ 9223372036854775807) :
    Calls Try.prog 29 #[.agg cs.toArray, .string (B l), .int .i64 i] w fun e' w' => e' = .returned (trip (findI e l i)) ∧ Kp (fun _ => False) w w' := by
  obtain ⟨o, se, A, m, c, lo, hi', rfl⟩ := h.form
  refine enter (n := 48) (args := [.agg #[.string (B o), .string (B se), .slice A m c, .int .i64 lo, .int .i64 hi'], .string (B l), .int .i64 i]) Try.func29 rfl rfl rfl (by simp) ?_
  rcases Bool.eq_false_or_eq_true (decide (i < 0)) with c0 | c0
  · have : findI e l i = none := by unfold findI; rw [if_pos (by simpa using c0)]
    rw [this]
    repeat (first | refine qS ?_ | refine qB ?_ | refine qT rfl ?_ | refine qF rfl ?_ | ((first | refine qR rfl ?_ | refine qK ?_ | refine qE ?_ | refine qW ?_ | refine qM ?_); try simp -dsimp (maxSteps := 2000000) (disch := first | omega | (simp only [qZ] <;> omega) | fail) only [push_cast, ↓qP, ↓reduceIte, Nat.reduceEqDiff, Nat.reduceAdd, Nat.reduceMul, Nat.reduceSub, Nat.reduceLeDiff, Int.reduceToNat, reduceCtorEq, c0]) | (refine qA ?_ ?_; (first | omega | (simp only [qL]; omega) | (simp only [qD] at *; omega))))
    exact Ret.mk ⟨rfl, (Kp.refl _ w).alloc _⟩
  obtain ⟨n, rfl⟩ : ∃ n : Nat, i = n := ⟨i.toNat, by simp at c0; omega⟩
  have hfi : findI e l n = find3 e l (l.length + 1 - n) n := by unfold findI; rw [if_neg (by omega), Int.toNat_natCast]
  rw [hfi]
  obtain ⟨R, hR⟩ : ∃ R, find3 e l (l.length + 1 - n) n = R := ⟨_, rfl⟩
  rw [hR]
  obtain ⟨p, hp⟩ : ∃ p, p = w.heap.size := ⟨_, rfl⟩
  repeat (first | refine qS ?_ | refine qB ?_ | refine qT rfl ?_ | refine qF rfl ?_ | ((first | refine qR rfl ?_ | refine qK ?_ | refine qE ?_ | refine qW ?_ | refine qM ?_); try simp -dsimp (maxSteps := 2000000) (disch := first | omega | (simp only [qZ] <;> omega) | fail) only [push_cast, ↓qP, ↓reduceIte, Nat.reduceEqDiff, Nat.reduceAdd, Nat.reduceMul, Nat.reduceSub, Nat.reduceLeDiff, Int.reduceToNat, reduceCtorEq, c0]) | (refine qA ?_ ?_; (first | omega | (simp only [qL]; omega) | (simp only [qD] at *; omega))))
  refine Wp.loop (α := Nat) (fun f F W => ∃ i : Nat, F 1 = .string (B l) ∧ F 3 = .pointer (some ⟨p, 0, none⟩) ∧ F 9 = .int .i64 i ∧ f = l.length + 1 - i ∧ Kp (fun _ => False) w W ∧ Blk W p 33 [.string (B o), .string (B se), .slice A m c, .int .i64 lo, .int .i64 hi'] ∧ Hide (find3 e l f i = R)) (fun f => f) (l.length + 1 - n)
    ⟨n, by simp [upd, arg], by simp [upd, hp], by simp [upd, arg], rfl, (Kp.refl _ w).alloc _, by rw [hp]; exact Blk.new w 33 [.string (B o), .string (B se), .slice A m c, .int .i64 lo, .int .i64 hi'], ⟨hR⟩⟩ ?_
  clear c0 hfi hR hi
  rintro f F W ⟨i, f1, f3, f9, hf, k1, hp1, hst⟩
  rcases Nat.lt_or_ge l.length i with hgt | hle
  · have c1 : decide ((i : Int) ≤ (l.length : Int)) = false := decide_eq_false (by omega)
    obtain rfl : f = 0 := by omega
    have hst1 := hst.out
    simp only [find3] at hst1
    repeat (first | refine qS ?_ | refine qB ?_ | refine qT rfl ?_ | refine qF rfl ?_ | ((first | refine qR rfl ?_ | refine qK ?_ | refine qE ?_ | refine qW ?_ | refine qM ?_); try simp -dsimp (maxSteps := 2000000) (disch := first | omega | (simp only [qZ] <;> omega) | fail) only [push_cast, ↓qP, ↓reduceIte, Nat.reduceEqDiff, Nat.reduceAdd, Nat.reduceMul, Nat.reduceSub, Nat.reduceLeDiff, Int.reduceToNat, reduceCtorEq, f1, f3, f9, c1]) | (refine qA ?_ ?_; (first | omega | (simp only [qL]; omega) | (simp only [qD] at *; omega))))
    exact Ret.mk ⟨by rw [← hst1]; rfl, k1⟩
  have c1 : decide ((i : Int) ≤ (l.length : Int)) = true := decide_eq_true (by omega)
  obtain ⟨f, rfl⟩ : ∃ f', f = f' + 1 := ⟨f - 1, by omega⟩
  have hst1 := hst.out
  simp only [find3] at hst1
  have hltp := hp1.lt
  have hset0 := Blk.new W 4 (zeros [.bool false] (l.length + 1))
  have hz : zeros [.bool false] (l.length + 1) = bools (noP l) := by simp [zeros_one, bools, noP]
  rw [hz] at hset0
  have hNl : (noP l).length = l.length + 1 := by simp [noP]
  have hcell : (zeros [.bool false] (l.length + 1))[i]? = some (.bool ((noP l).getD i false)) := by rw [hz]; exact bools_get _ _ (by omega)
  have hln : ((l.length : Int) + 1).toNat = l.length + 1 := by omega
  refine Sm.out ?_
  repeat (first | ((fail_if_success (first | refine qY (n := 8) ?_ | refine qV (n := 8) ?_)); refine qS ?_) | refine qB ?_ | refine qT rfl ?_ | refine qF rfl ?_ | ((first | refine qR rfl ?_ | refine qK ?_ | refine qE ?_ | refine qW ?_ | refine qM ?_); try simp -dsimp (maxSteps := 2000000) (disch := first | omega | (simp only [qZ] <;> omega) | fail) only [push_cast, ↓qP, ↓reduceIte, Nat.reduceEqDiff, Nat.reduceAdd, Nat.reduceMul, Nat.reduceSub, Nat.reduceLeDiff, Int.reduceToNat, reduceCtorEq, f1, f3, f9, c1, hln, hcell]) | (refine qA ?_ ?_; (first | omega | (simp only [qL]; omega) | (simp only [qD] at *; omega))))
  refine Wp.gen (A := fun W2 => Kp (fun _ => False) W W2 ∧ Blk W2 W.heap.size 4 (bools ((noP l).set i true))) ⟨((Kp.refl _ W).alloc _).setCell (p := ⟨W.heap.size, i, none⟩) (fun h => absurd h (Nat.lt_irrefl _)) _, ?_⟩ ?_
  · have := hset0.set i (.bool true)
    rw [bools_set, ← hz] at this
    exact this
  rintro W2 ⟨k2, hq2⟩
  have hp2 := k2.Blk hp1 id
  have hltp2 := hp2.lt
  have hre2 := h.Kp (D' := D) (k1.trans k2) (fun _ _ => id) (fun _ h => h)
  have hNs : ((noP l).set i true).length = l.length + 1 := by simp [noP]
  repeat (first | refine qS ?_ | refine qB ?_ | refine qT rfl ?_ | refine qF rfl ?_ | ((first | refine qR rfl ?_ | refine qK ?_ | refine qE ?_ | refine qW ?_ | refine qM ?_); try simp -dsimp (maxSteps := 2000000) (disch := first | omega | (simp only [qZ] <;> omega) | fail) only [push_cast, ↓qP, ↓reduceIte, Nat.reduceEqDiff, Nat.reduceAdd, Nat.reduceMul, Nat.reduceSub, Nat.reduceLeDiff, Int.reduceToNat, reduceCtorEq, f1, f3, f9, hp2.rdc]) | (refine qA ?_ ?_; (first | omega | (simp only [qL]; omega) | (simp only [qD] at *; omega))))
  refine CallV.of isCall_62 (ends3_any hl e hg hwt W2 _ W.heap.size (l.length + 1) _ hre2 hNs (blk_bs hq2)) ?_
  rintro _ W3 ⟨b, c2, rfl, hb, k3⟩
  have hlen := ends3_len l e hg _ hNs
  generalize ends3 l e ((noP l).set i true) = x at *
  clear hcell hset0 hz hq2 hp2 hre2 hltp hltp2
  refine Sm.out ?_
  repeat (first | refine qS ?_ | refine qB ?_ | refine qT rfl ?_ | refine qF rfl ?_ | ((first | refine qR rfl ?_ | refine qK ?_ | refine qE ?_ | refine qW ?_ | refine qM ?_); try simp -dsimp (maxSteps := 2000000) (disch := first | omega | (simp only [qZ] <;> omega) | fail) only [push_cast, ↓qP, ↓reduceIte, Nat.reduceEqDiff, Nat.reduceAdd, Nat.reduceMul, Nat.reduceSub, Nat.reduceLeDiff, Int.reduceToNat, reduceCtorEq, f1, f3, f9]) | (refine qA ?_ ?_; (first | omega | (simp only [qL]; omega) | (simp only [qD] at *; omega))))
  obtain ⟨S, hS⟩ : ∃ S, scan x i (l.length + 1) = S := ⟨_, rfl⟩
  rw [hS] at hst1
  refine Wp.loop (α := Nat) (fun k F W4 => F 1 = .string (B l) ∧ F 3 = .pointer (some ⟨p, 0, none⟩) ∧ F 9 = .int .i64 i ∧ F 11 = .slice (some ⟨b, 0, none⟩) (l.length + 1) c2 ∧ F 12 = .int .i64 ((k : Int) - 1) ∧ k ≤ l.length + 1 ∧ W3 = W4 ∧ Hide (scan x i k = S)) (fun k => k) (l.length + 1)
    ⟨by simp [upd, f1], by simp [upd, f3], by simp [upd, f9], by simp [upd], by simp [upd], Nat.le_refl _, rfl, ⟨hS⟩⟩ ?_
  have hp3 := (k2.trans k3).Blk hp1 id
  have hbl := hb.1
  clear f1 f3 f9
  rintro k F _ ⟨f1, f3, f9, f11, f12, hk, rfl, hsc⟩
  rcases Nat.lt_or_ge i k with hik | hik
  · obtain ⟨k, rfl⟩ : ∃ k', k = k' + 1 := ⟨k - 1, by omega⟩
    have hkk : (((k + 1 : Nat) : Int) - 1) = k := by omega
    rw [hkk] at f12
    have c3 : decide ((k : Int) ≥ (i : Int)) = true := decide_eq_true (by omega)
    have r1 := hb.2 k (by omega)
    have hsc1 := hsc.out
    simp only [scan] at hsc1
    rw [if_neg (by omega)] at hsc1
    rcases Bool.eq_false_or_eq_true (x.getD k false) with c4 | c4
    · rw [c4] at r1 hsc1
      rw [if_pos rfl] at hsc1
      rw [← hsc1] at hst1
      repeat (first | refine qS ?_ | refine qB ?_ | refine qT rfl ?_ | refine qF rfl ?_ | ((first | refine qR rfl ?_ | refine qK ?_ | refine qE ?_ | refine qW ?_ | refine qM ?_); try simp -dsimp (maxSteps := 2000000) (disch := first | omega | (simp only [qZ] <;> omega) | fail) only [push_cast, ↓qP, ↓reduceIte, Nat.reduceEqDiff, Nat.reduceAdd, Nat.reduceMul, Nat.reduceSub, Nat.reduceLeDiff, Int.reduceToNat, reduceCtorEq, f1, f3, f9, f11, f12, c3, r1]) | (refine qA ?_ ?_; (first | omega | (simp only [qL]; omega) | (simp only [qD] at *; omega))))
      refine Ret.mk ⟨?_, k1.trans (k2.trans k3)⟩
      rw [← hst1]
      simp only [trip]
      rw [show ((k - i : Nat) : Int) = (k : Int) - i by omega]
    · rw [c4] at r1 hsc1
      rw [if_neg (by simp)] at hsc1
      repeat (first | refine qS ?_ | refine qB ?_ | refine qT rfl ?_ | refine qF rfl ?_ | ((first | refine qR rfl ?_ | refine qK ?_ | refine qE ?_ | refine qW ?_ | refine qM ?_); try simp -dsimp (maxSteps := 2000000) (disch := first | omega | (simp only [qZ] <;> omega) | fail) only [push_cast, ↓qP, ↓reduceIte, Nat.reduceEqDiff, Nat.reduceAdd, Nat.reduceMul, Nat.reduceSub, Nat.reduceLeDiff, Int.reduceToNat, reduceCtorEq, f1, f3, f9, f11, f12, c3, r1]) | (refine qA ?_ ?_; (first | omega | (simp only [qL]; omega) | (simp only [qD] at *; omega))))
      exact Again.mk k ⟨by simp [upd, f1], by simp [upd, f3], by simp [upd, f9], by simp [upd, f11], by simp [upd], by omega, rfl, ⟨hsc1⟩⟩ (by omega)
  · have c3 : decide ((k : Int) - 1 ≥ (i : Int)) = false := decide_eq_false (by omega)
    have hsc1 : scan x i k = none := by
      cases k with
      | zero => rfl
      | succ k => simp only [scan]; rw [if_pos (by omega)]
    rw [hsc.out] at hsc1
    rw [hsc1] at hst1
    repeat (first | refine qS ?_ | refine qB ?_ | refine qT rfl ?_ | refine qF rfl ?_ | ((first | refine qR rfl ?_ | refine qK ?_ | refine qE ?_ | refine qW ?_ | refine qM ?_); try simp -dsimp (maxSteps := 2000000) (disch := first | omega | (simp only [qZ] <;> omega) | fail) only [push_cast, ↓qP, ↓reduceIte, Nat.reduceEqDiff, Nat.reduceAdd, Nat.reduceMul, Nat.reduceSub, Nat.reduceLeDiff, Int.reduceToNat, reduceCtorEq, f1, f3, f9, f11, f12, c3]) | (refine qA ?_ ?_; (first | omega | (simp only [qL]; omega) | (simp only [qD] at *; omega))))
    exact Again.mk f ⟨i + 1, by simp [upd, f1], by simp [upd, f3], by simp [upd], by omega, k1.trans (k2.trans k3), hp3, ⟨hst1⟩⟩ (by omega)

def whole3 (e : Re) (l : List UInt8) : Bool := (ends3 l e ((noP l).set 0 true)).getD l.length false

theorem whole3_any (hl : l.length ≤ 1000000) (hg : Good e) (hwt : wt e ≤ 1000000000) (h : IsRe w D e cs) :
    Calls Try.prog 31 #[.agg cs.toArray, .string (B l)] w fun e' w' => e' = .returned (.bool (whole3 e l)) ∧ Kp (fun _ => False) w w' := by
  obtain ⟨o, se, A, m, c, lo, hi', rfl⟩ := h.form
  refine enter (n := 20) (args := [.agg #[.string (B o), .string (B se), .slice A m c, .int .i64 lo, .int .i64 hi'], .string (B l)]) Try.func31 rfl rfl rfl (by simp) ?_
  have hz : zeros [.bool false] (l.length + 1) = bools (noP l) := by simp [zeros_one, bools, noP]
  have hNl : (noP l).length = l.length + 1 := by simp [noP]
  have hset0 := Blk.new (w.alloc (.cells (List.toArray [.string (B o), .string (B se), .slice A m c, .int .i64 lo, .int .i64 hi']) 33)) 4 (zeros [.bool false] (l.length + 1))
  have hcell : (zeros [.bool false] (l.length + 1))[0]? = some (.bool ((noP l).getD 0 false)) := by rw [hz]; exact bools_get _ _ (by omega)
  have hln : ((l.length : Int) + 1).toNat = l.length + 1 := by omega
  refine Sm.out ?_
  repeat (first | ((fail_if_success (first | refine qY (n := 3) ?_ | refine qV (n := 3) ?_)); refine qS ?_) | refine qB ?_ | refine qT rfl ?_ | refine qF rfl ?_ | ((first | refine qR rfl ?_ | refine qK ?_ | refine qE ?_ | refine qW ?_ | refine qM ?_); try simp -dsimp (maxSteps := 2000000) (disch := first | omega | (simp only [qZ] <;> omega) | fail) only [push_cast, ↓qP, ↓reduceIte, Nat.reduceEqDiff, Nat.reduceAdd, Nat.reduceMul, Nat.reduceSub, Nat.reduceLeDiff, Int.reduceToNat, reduceCtorEq, hcell, hln]) | (refine qA ?_ ?_; (first | omega | (simp only [qL]; omega) | (simp only [qD] at *; omega))))
  refine Wp.gen (A := fun W2 => Kp (fun _ => False) w W2 ∧ Blk W2 w.heap.size 33 [.string (B o), .string (B se), .slice A m c, .int .i64 lo, .int .i64 hi'] ∧ Blk W2 (w.heap.size + 1) 4 (bools ((noP l).set 0 true))) ⟨(((Kp.refl _ w).alloc _).alloc _).setCell (p := ⟨w.heap.size + 1, 0, none⟩) (fun h => absurd h (Nat.not_lt.2 (Nat.le_succ _))) _, ((Blk.new w 33 [.string (B o), .string (B se), .slice A m c, .int .i64 lo, .int .i64 hi']).alloc _).far (p := ⟨w.heap.size + 1, 0, none⟩) (Nat.ne_of_lt (Nat.lt_succ_self _)) _, ?_⟩ ?_
  · rw [World.size_alloc, hz] at hset0
    have := hset0.set 0 (.bool true)
    rw [bools_set, ← hz] at this
    exact this
  rintro W2 ⟨k2, hp2, hq2⟩
  have hltp2 := hp2.lt
  have hre2 := h.Kp (D' := D) k2 (fun _ _ => id) (fun _ h => h)
  have hNs : ((noP l).set 0 true).length = l.length + 1 := by simp [noP]
  repeat (first | refine qS ?_ | refine qB ?_ | refine qT rfl ?_ | refine qF rfl ?_ | ((first | refine qR rfl ?_ | refine qK ?_ | refine qE ?_ | refine qW ?_ | refine qM ?_); try simp -dsimp (maxSteps := 2000000) (disch := first | omega | (simp only [qZ] <;> omega) | fail) only [push_cast, ↓qP, ↓reduceIte, Nat.reduceEqDiff, Nat.reduceAdd, Nat.reduceMul, Nat.reduceSub, Nat.reduceLeDiff, Int.reduceToNat, reduceCtorEq, hp2.rdc]) | (refine qA ?_ ?_; (first | omega | (simp only [qL]; omega) | (simp only [qD] at *; omega))))
  refine CallV.of isCall_62 (ends3_any hl e hg hwt W2 _ (w.heap.size + 1) (l.length + 1) _ hre2 hNs (blk_bs hq2)) ?_
  rintro _ W3 ⟨b, c2, rfl, hb, k3⟩
  have hlen := ends3_len l e hg _ hNs
  have r1 := hb.2 l.length (by omega)
  refine Sm.out ?_
  repeat (first | refine qS ?_ | refine qB ?_ | refine qT rfl ?_ | refine qF rfl ?_ | ((first | refine qR rfl ?_ | refine qK ?_ | refine qE ?_ | refine qW ?_ | refine qM ?_); try simp -dsimp (maxSteps := 2000000) (disch := first | omega | (simp only [qZ] <;> omega) | fail) only [push_cast, ↓qP, ↓reduceIte, Nat.reduceEqDiff, Nat.reduceAdd, Nat.reduceMul, Nat.reduceSub, Nat.reduceLeDiff, Int.reduceToNat, reduceCtorEq, r1]) | (refine qA ?_ ?_; (first | omega | (simp only [qL]; omega) | (simp only [qD] at *; omega))))
  exact Ret.mk ⟨rfl, k2.trans k3⟩
end
end Go.Proofs.Ytddichibegppjaa

/- The machine's maker: right. -/
namespace Go.Proofs.Ytddichibegppjaa
open Go Go.VC

theorem sizes3_append (b : List Re) : ∀ (a : List Re) (n : Int), sizes3 (a ++ b) n = sizes3 b (sizes3 a n)
  | [], n => rfl
  | k :: a, n => by simp only [List.cons_append, sizes3]; exact sizes3_append b a _
theorem sizes3_ge {ks : List Re} (hk : ∀ k ∈ ks, 0 ≤ size3 k) : ∀ n, n ≤ 2001 → n ≤ sizes3 ks n := by
  induction ks with
  | nil => intro n h; simp only [sizes3]; omega
  | cons k ks ih =>
    intro n h
    have h1 := hk k (by simp)
    have h2 := ih (fun k h => hk k (by simp [h])) (min (n + size3 k) 2001) (by omega)
    simp only [sizes3]
    omega
theorem Good.kid_size {op set : List UInt8} {kids : List Re} {lo hi : Int} (h : Good (.node op set kids lo hi)) : ∀ k ∈ kids, 0 ≤ size3 k := fun k hk => (size3_bound k (Goods_mem h.kids hk)).1
theorem sizes3_fit {op set : List UInt8} {kids : List Re} {lo hi : Int} (h : Good (.node op set kids lo hi)) (hs : size3 (.node op set kids lo hi) ≤ 2000) : 0 ≤ sizes3 kids 0 ∧ sizes3 kids 0 ≤ 2000 := by
  have hb := sizes3_bound (ks := kids) (fun k hk => size3_bound k (Goods_mem h.kids hk)) 0 (by omega) (by omega)
  refine ⟨hb.1, ?_⟩
  obtain ⟨n1, n2, n3, n4, n5, n6, n7, n8, n9, n10, n11, n12, n13, n14, n15⟩ := op_ne
  have hg := h
  simp only [Good] at h
  rcases h with ⟨_, h, _⟩ | ⟨_, h⟩ | ⟨_, h⟩ | ⟨rfl, h⟩ | ⟨rfl, h⟩ | ⟨rfl, h⟩
  · subst h; simp [sizes3]
  · subst h; simp [sizes3]
  · subst h; simp [sizes3]
  · simp only [size3, Ne.symm n3, Ne.symm n7, Ne.symm n10, n13, n14, if_false] at hs
    omega
  · simp only [size3, Ne.symm n4, Ne.symm n8, Ne.symm n11, if_false, if_true] at hs
    omega
  · obtain ⟨b1, b2, b3, b4, b5, b6⟩ := hg.bounds rfl
    simp only [size3, Ne.symm n5, Ne.symm n9, Ne.symm n12, Ne.symm n15, if_false, if_true] at hs
    have : sizes3 kids 0 ≤ sizes3 kids 0 * (if hi < 0 then lo + 1 else max 1 hi) := by
      have h1 : (1 : Int) ≤ (if hi < 0 then lo + 1 else max 1 hi) := by split <;> omega
      have := Int.mul_le_mul_of_nonneg_left h1 hb.1
      omega
    omega
/-- Up to a kid, where all is small. -/
theorem sizes3_kid {op set : List UInt8} {kids : List Re} {lo hi : Int} (h : Good (.node op set kids lo hi)) (hs : size3 (.node op set kids lo hi) ≤ 2000) {j : Nat} (hj : j < kids.length) :
    0 ≤ sizes3 (kids.take j) 0 ∧ sizes3 (kids.take (j + 1)) 0 = sizes3 (kids.take j) 0 + size3 kids[j] ∧ sizes3 (kids.take (j + 1)) 0 ≤ 2000 ∧ 0 ≤ size3 kids[j] ∧ size3 kids[j] ≤ 2000 := by
  have hf := sizes3_fit h hs
  have hk := h.kid_size
  have h1 : sizes3 (kids.take (j + 1)) 0 ≤ sizes3 kids 0 := by
    have e : kids = kids.take (j + 1) ++ kids.drop (j + 1) := (List.take_append_drop _ _).symm
    have hb := sizes3_bound (ks := kids.take (j + 1)) (fun k hk => size3_bound k (Goods_mem h.kids (List.mem_of_mem_take hk))) 0 (by omega) (by omega)
    conv => rhs; rw [e, sizes3_append]
    exact sizes3_ge (fun k hk' => hk k (List.mem_of_mem_drop hk')) _ hb.2
  have hb := sizes3_bound (ks := kids.take j) (fun k hk => size3_bound k (Goods_mem h.kids (List.mem_of_mem_take hk))) 0 (by omega) (by omega)
  have h2 : sizes3 (kids.take (j + 1)) 0 = min (sizes3 (kids.take j) 0 + size3 kids[j]) 2001 := by rw [List.take_succ_eq_append_getElem hj, sizes3_snoc]
  have h3 := hk kids[j] (List.getElem_mem hj)
  omega

theorem ops_set : (opSet == [115, 101, 116]) = true ∧ (opSet == [98, 111, 108]) = false ∧ (opSet == [101, 111, 108]) = false ∧ (opSet == [97, 108, 116]) = false ∧ (opSet == [114, 101, 112]) = false ∧ (opSet == [99, 97, 116]) = false := by decide
theorem ops_bol : (opBol == [115, 101, 116]) = false ∧ (opBol == [98, 111, 108]) = true ∧ (opBol == [101, 111, 108]) = false ∧ (opBol == [97, 108, 116]) = false ∧ (opBol == [114, 101, 112]) = false ∧ (opBol == [99, 97, 116]) = false := by decide
theorem ops_eol : (opEol == [115, 101, 116]) = false ∧ (opEol == [98, 111, 108]) = false ∧ (opEol == [101, 111, 108]) = true ∧ (opEol == [97, 108, 116]) = false ∧ (opEol == [114, 101, 112]) = false ∧ (opEol == [99, 97, 116]) = false := by decide
theorem ops_alt : (opAlt == [115, 101, 116]) = false ∧ (opAlt == [98, 111, 108]) = false ∧ (opAlt == [101, 111, 108]) = false ∧ (opAlt == [97, 108, 116]) = true ∧ (opAlt == [114, 101, 112]) = false ∧ (opAlt == [99, 97, 116]) = false := by decide
theorem ops_rep : (opRep == [115, 101, 116]) = false ∧ (opRep == [98, 111, 108]) = false ∧ (opRep == [101, 111, 108]) = false ∧ (opRep == [97, 108, 116]) = false ∧ (opRep == [114, 101, 112]) = true ∧ (opRep == [99, 97, 116]) = false := by decide
theorem ops_cat : (opCat == [115, 101, 116]) = false ∧ (opCat == [98, 111, 108]) = false ∧ (opCat == [101, 111, 108]) = false ∧ (opCat == [97, 108, 116]) = false ∧ (opCat == [114, 101, 112]) = false ∧ (opCat == [99, 97, 116]) = true := by decide
theorem lf_set : (decide (opSet = opSet) || decide (opSet = opBol) || decide (opSet = opEol)) = true := by decide
theorem lf_bol : (decide (opBol = opSet) || decide (opBol = opBol) || decide (opBol = opEol)) = true := by decide
theorem lf_eol : (decide (opEol = opSet) || decide (opEol = opBol) || decide (opEol = opEol)) = true := by decide
theorem lf_cat : (decide (opCat = opSet) || decide (opCat = opBol) || decide (opCat = opEol)) = false := by decide
theorem lf_alt : (decide (opAlt = opSet) || decide (opAlt = opBol) || decide (opAlt = opEol)) = false := by decide
theorem lf_rep : (decide (opRep = opSet) || decide (opRep = opBol) || decide (opRep = opEol)) = false := by decide

section
variable {w : World} {D : Nat → Prop}

theorem right_any : ∀ e : Re, Good e → size3 e ≤ 2000 → ∀ (w : World) (cs : List Value) (deep : Nat), deep + wt e ≤ 2001 → IsRe w D e cs → Calls Try.prog 57 #[.agg cs.toArray, .int .i64 deep] w fun e' w' => e' = .returned (.tuple #[.int .i64 (size3 e), .bool true]) ∧ Kp (fun _ => False) w w' := by
  refine Re.ind fun op set kids lo hi ih hg hsz w cs deep hwt h => ?_
  obtain ⟨A, c, rfl⟩ := h.cells
  simp only [wt] at hwt
  have hkl := wts_len kids
  have hgb := hg.bounds
  have hgk := hg.kids
  have hfit := sizes3_fit hg hsz
  have hgg := hg
  simp only [Good] at hgg
  replace hgb : Hide _ := ⟨hgb⟩
  replace hgg : Hide _ := ⟨hgg⟩
  refine enter (n := 138) (args := [.agg #[.string (B op), .string (B set), .slice A kids.length c, .int .i64 lo, .int .i64 hi], .int .i64 (deep : Int)]) Try.func57 rfl rfl rfl (by simp) ?_
  refine Wp.seq (Wp.region rfl ?_)
  simp -dsimp (maxSteps := 2000000) (disch := first | omega | (simp only [qZ] <;> omega) | fail) only [push_cast, ↓qP, ↓reduceIte, Nat.reduceEqDiff, Nat.reduceAdd, Nat.reduceMul, Nat.reduceSub, Nat.reduceLeDiff, Int.reduceToNat, reduceCtorEq]
  obtain ⟨p, hp⟩ : ∃ p, p = w.heap.size := ⟨_, rfl⟩
  rw [← hp]
  refine Wp.gen (A := fun W => Kp (fun _ => False) w W ∧ Blk W p 33 [.string (B op), .string (B set), .slice A kids.length c, .int .i64 lo, .int .i64 hi]) ⟨(Kp.refl _ w).alloc _, by rw [hp]; exact Blk.new _ _ _⟩ ?_
  rintro w1 ⟨k1, hb1⟩
  have hltp := hb1.lt
  have cd : decide ((deep : Int) > 2000) = false := decide_eq_false (by omega)
  refine Wp.cut (fun F W => F 1 = .int .i64 (deep : Int) ∧ F 2 = .pointer (some ⟨p, 0, none⟩) ∧ F 6 = .bool (decide (op = opSet) || decide (op = opBol) || decide (op = opEol)) ∧ w1 = W) ?_ ?_
  · rcases hgg.out with ⟨rfl, hk, _⟩ | ⟨rfl, hk⟩ | ⟨rfl, hk⟩ | ⟨rfl, hk⟩ | ⟨rfl, hk⟩ | ⟨rfl, hk⟩
    · obtain ⟨e1, e2, e3, e4, e5, e6⟩ := ops_set
      repeat (first | refine qS ?_ | refine qB ?_ | refine qT rfl ?_ | refine qF rfl ?_ | ((first | refine qR rfl ?_ | refine qK ?_ | refine qE ?_ | refine qW ?_ | refine qM ?_); try simp -dsimp (maxSteps := 2000000) (disch := first | omega | (simp only [qZ] <;> omega) | fail) only [push_cast, ↓qP, ↓reduceIte, Nat.reduceEqDiff, Nat.reduceAdd, Nat.reduceMul, Nat.reduceSub, Nat.reduceLeDiff, Int.reduceToNat, reduceCtorEq, hb1.rdc, e1, e2, e3]) | (refine qA ?_ ?_; (first | omega | (simp only [qL]; omega) | (simp only [qD] at *; omega))))
      exact Mid.mk ⟨by simp [upd, arg], by simp [upd], by simp [upd]; try decide, rfl⟩
    · obtain ⟨e1, e2, e3, e4, e5, e6⟩ := ops_bol
      repeat (first | refine qS ?_ | refine qB ?_ | refine qT rfl ?_ | refine qF rfl ?_ | ((first | refine qR rfl ?_ | refine qK ?_ | refine qE ?_ | refine qW ?_ | refine qM ?_); try simp -dsimp (maxSteps := 2000000) (disch := first | omega | (simp only [qZ] <;> omega) | fail) only [push_cast, ↓qP, ↓reduceIte, Nat.reduceEqDiff, Nat.reduceAdd, Nat.reduceMul, Nat.reduceSub, Nat.reduceLeDiff, Int.reduceToNat, reduceCtorEq, hb1.rdc, e1, e2, e3]) | (refine qA ?_ ?_; (first | omega | (simp only [qL]; omega) | (simp only [qD] at *; omega))))
      exact Mid.mk ⟨by simp [upd, arg], by simp [upd], by simp [upd]; try decide, rfl⟩
    · obtain ⟨e1, e2, e3, e4, e5, e6⟩ := ops_eol
      repeat (first | refine qS ?_ | refine qB ?_ | refine qT rfl ?_ | refine qF rfl ?_ | ((first | refine qR rfl ?_ | refine qK ?_ | refine qE ?_ | refine qW ?_ | refine qM ?_); try simp -dsimp (maxSteps := 2000000) (disch := first | omega | (simp only [qZ] <;> omega) | fail) only [push_cast, ↓qP, ↓reduceIte, Nat.reduceEqDiff, Nat.reduceAdd, Nat.reduceMul, Nat.reduceSub, Nat.reduceLeDiff, Int.reduceToNat, reduceCtorEq, hb1.rdc, e1, e2, e3]) | (refine qA ?_ ?_; (first | omega | (simp only [qL]; omega) | (simp only [qD] at *; omega))))
      exact Mid.mk ⟨by simp [upd, arg], by simp [upd], by simp [upd]; try decide, rfl⟩
    · obtain ⟨e1, e2, e3, e4, e5, e6⟩ := ops_cat
      repeat (first | refine qS ?_ | refine qB ?_ | refine qT rfl ?_ | refine qF rfl ?_ | ((first | refine qR rfl ?_ | refine qK ?_ | refine qE ?_ | refine qW ?_ | refine qM ?_); try simp -dsimp (maxSteps := 2000000) (disch := first | omega | (simp only [qZ] <;> omega) | fail) only [push_cast, ↓qP, ↓reduceIte, Nat.reduceEqDiff, Nat.reduceAdd, Nat.reduceMul, Nat.reduceSub, Nat.reduceLeDiff, Int.reduceToNat, reduceCtorEq, hb1.rdc, e1, e2, e3]) | (refine qA ?_ ?_; (first | omega | (simp only [qL]; omega) | (simp only [qD] at *; omega))))
      exact Mid.mk ⟨by simp [upd, arg], by simp [upd], by simp [upd]; try decide, rfl⟩
    · obtain ⟨e1, e2, e3, e4, e5, e6⟩ := ops_alt
      repeat (first | refine qS ?_ | refine qB ?_ | refine qT rfl ?_ | refine qF rfl ?_ | ((first | refine qR rfl ?_ | refine qK ?_ | refine qE ?_ | refine qW ?_ | refine qM ?_); try simp -dsimp (maxSteps := 2000000) (disch := first | omega | (simp only [qZ] <;> omega) | fail) only [push_cast, ↓qP, ↓reduceIte, Nat.reduceEqDiff, Nat.reduceAdd, Nat.reduceMul, Nat.reduceSub, Nat.reduceLeDiff, Int.reduceToNat, reduceCtorEq, hb1.rdc, e1, e2, e3]) | (refine qA ?_ ?_; (first | omega | (simp only [qL]; omega) | (simp only [qD] at *; omega))))
      exact Mid.mk ⟨by simp [upd, arg], by simp [upd], by simp [upd]; try decide, rfl⟩
    · obtain ⟨e1, e2, e3, e4, e5, e6⟩ := ops_rep
      repeat (first | refine qS ?_ | refine qB ?_ | refine qT rfl ?_ | refine qF rfl ?_ | ((first | refine qR rfl ?_ | refine qK ?_ | refine qE ?_ | refine qW ?_ | refine qM ?_); try simp -dsimp (maxSteps := 2000000) (disch := first | omega | (simp only [qZ] <;> omega) | fail) only [push_cast, ↓qP, ↓reduceIte, Nat.reduceEqDiff, Nat.reduceAdd, Nat.reduceMul, Nat.reduceSub, Nat.reduceLeDiff, Int.reduceToNat, reduceCtorEq, hb1.rdc, e1, e2, e3]) | (refine qA ?_ ?_; (first | omega | (simp only [qL]; omega) | (simp only [qD] at *; omega))))
      exact Mid.mk ⟨by simp [upd, arg], by simp [upd], by simp [upd]; try decide, rfl⟩
  rintro F _ ⟨f1, f2, f6, rfl⟩
  refine Wp.cut (fun F W => F 1 = .int .i64 (deep : Int) ∧ F 2 = .pointer (some ⟨p, 0, none⟩) ∧ w1 = W) ?_ ?_
  · rcases hgg.out with ⟨rfl, hk, _⟩ | ⟨rfl, hk⟩ | ⟨rfl, hk⟩ | ⟨rfl, hk⟩ | ⟨rfl, hk, _⟩ | ⟨rfl, hk⟩
    · obtain ⟨e1, e2, e3, e4, e5, e6⟩ := ops_set
      rw [lf_set] at f6
      have ck : decide ((kids.length : Int) > 0) = false := decide_eq_false (by rw [hk]; simp)
      repeat (first | refine qS ?_ | refine qB ?_ | refine qT rfl ?_ | refine qF rfl ?_ | ((first | refine qR rfl ?_ | refine qK ?_ | refine qE ?_ | refine qW ?_ | refine qM ?_); try simp -dsimp (maxSteps := 2000000) (disch := first | omega | (simp only [qZ] <;> omega) | fail) only [push_cast, ↓qP, ↓reduceIte, Nat.reduceEqDiff, Nat.reduceAdd, Nat.reduceMul, Nat.reduceSub, Nat.reduceLeDiff, Int.reduceToNat, reduceCtorEq, f1, f2, f6, cd, ck, hb1.rdc, e4]) | (refine qA ?_ ?_; (first | omega | (simp only [qL]; omega) | (simp only [qD] at *; omega))))
      exact Mid.mk ⟨by simp [upd, f1], by simp [upd, f2], rfl⟩
    · obtain ⟨e1, e2, e3, e4, e5, e6⟩ := ops_bol
      rw [lf_bol] at f6
      have ck : decide ((kids.length : Int) > 0) = false := decide_eq_false (by rw [hk]; simp)
      repeat (first | refine qS ?_ | refine qB ?_ | refine qT rfl ?_ | refine qF rfl ?_ | ((first | refine qR rfl ?_ | refine qK ?_ | refine qE ?_ | refine qW ?_ | refine qM ?_); try simp -dsimp (maxSteps := 2000000) (disch := first | omega | (simp only [qZ] <;> omega) | fail) only [push_cast, ↓qP, ↓reduceIte, Nat.reduceEqDiff, Nat.reduceAdd, Nat.reduceMul, Nat.reduceSub, Nat.reduceLeDiff, Int.reduceToNat, reduceCtorEq, f1, f2, f6, cd, ck, hb1.rdc, e4]) | (refine qA ?_ ?_; (first | omega | (simp only [qL]; omega) | (simp only [qD] at *; omega))))
      exact Mid.mk ⟨by simp [upd, f1], by simp [upd, f2], rfl⟩
    · obtain ⟨e1, e2, e3, e4, e5, e6⟩ := ops_eol
      rw [lf_eol] at f6
      have ck : decide ((kids.length : Int) > 0) = false := decide_eq_false (by rw [hk]; simp)
      repeat (first | refine qS ?_ | refine qB ?_ | refine qT rfl ?_ | refine qF rfl ?_ | ((first | refine qR rfl ?_ | refine qK ?_ | refine qE ?_ | refine qW ?_ | refine qM ?_); try simp -dsimp (maxSteps := 2000000) (disch := first | omega | (simp only [qZ] <;> omega) | fail) only [push_cast, ↓qP, ↓reduceIte, Nat.reduceEqDiff, Nat.reduceAdd, Nat.reduceMul, Nat.reduceSub, Nat.reduceLeDiff, Int.reduceToNat, reduceCtorEq, f1, f2, f6, cd, ck, hb1.rdc, e4]) | (refine qA ?_ ?_; (first | omega | (simp only [qL]; omega) | (simp only [qD] at *; omega))))
      exact Mid.mk ⟨by simp [upd, f1], by simp [upd, f2], rfl⟩
    · obtain ⟨e1, e2, e3, e4, e5, e6⟩ := ops_cat
      rw [lf_cat] at f6
      repeat (first | refine qS ?_ | refine qB ?_ | refine qT rfl ?_ | refine qF rfl ?_ | ((first | refine qR rfl ?_ | refine qK ?_ | refine qE ?_ | refine qW ?_ | refine qM ?_); try simp -dsimp (maxSteps := 2000000) (disch := first | omega | (simp only [qZ] <;> omega) | fail) only [push_cast, ↓qP, ↓reduceIte, Nat.reduceEqDiff, Nat.reduceAdd, Nat.reduceMul, Nat.reduceSub, Nat.reduceLeDiff, Int.reduceToNat, reduceCtorEq, f1, f2, f6, cd, hb1.rdc, e4]) | (refine qA ?_ ?_; (first | omega | (simp only [qL]; omega) | (simp only [qD] at *; omega))))
      exact Mid.mk ⟨by simp [upd, f1], by simp [upd, f2], rfl⟩
    · obtain ⟨e1, e2, e3, e4, e5, e6⟩ := ops_alt
      rw [lf_alt] at f6
      have ck : ((kids.length : Int) == 0) = false := by simpa using hk
      repeat (first | refine qS ?_ | refine qB ?_ | refine qT rfl ?_ | refine qF rfl ?_ | ((first | refine qR rfl ?_ | refine qK ?_ | refine qE ?_ | refine qW ?_ | refine qM ?_); try simp -dsimp (maxSteps := 2000000) (disch := first | omega | (simp only [qZ] <;> omega) | fail) only [push_cast, ↓qP, ↓reduceIte, Nat.reduceEqDiff, Nat.reduceAdd, Nat.reduceMul, Nat.reduceSub, Nat.reduceLeDiff, Int.reduceToNat, reduceCtorEq, f1, f2, f6, cd, ck, hb1.rdc, e4]) | (refine qA ?_ ?_; (first | omega | (simp only [qL]; omega) | (simp only [qD] at *; omega))))
      exact Mid.mk ⟨by simp [upd, f1], by simp [upd, f2], rfl⟩
    · obtain ⟨e1, e2, e3, e4, e5, e6⟩ := ops_rep
      rw [lf_rep] at f6
      repeat (first | refine qS ?_ | refine qB ?_ | refine qT rfl ?_ | refine qF rfl ?_ | ((first | refine qR rfl ?_ | refine qK ?_ | refine qE ?_ | refine qW ?_ | refine qM ?_); try simp -dsimp (maxSteps := 2000000) (disch := first | omega | (simp only [qZ] <;> omega) | fail) only [push_cast, ↓qP, ↓reduceIte, Nat.reduceEqDiff, Nat.reduceAdd, Nat.reduceMul, Nat.reduceSub, Nat.reduceLeDiff, Int.reduceToNat, reduceCtorEq, f1, f2, f6, cd, hb1.rdc, e4]) | (refine qA ?_ ?_; (first | omega | (simp only [qL]; omega) | (simp only [qD] at *; omega))))
      exact Mid.mk ⟨by simp [upd, f1], by simp [upd, f2], rfl⟩
  clear f1 f2 f6
  rintro F _ ⟨f1, f2, rfl⟩
  refine Wp.seq (Wp.region rfl ?_)
  simp -dsimp (maxSteps := 2000000) (disch := first | omega | (simp only [qZ] <;> omega) | fail) only [push_cast, ↓qP, ↓reduceIte, Nat.reduceEqDiff, Nat.reduceAdd, Nat.reduceMul, Nat.reduceSub, Nat.reduceLeDiff, Int.reduceToNat, reduceCtorEq]
  refine Wp.cut (fun F W => F 2 = .pointer (some ⟨p, 0, none⟩) ∧ F 7 = .int .i64 (sizes3 kids 0) ∧ Kp (fun _ => False) w W ∧ Blk W p 33 [.string (B op), .string (B set), .slice A kids.length c, .int .i64 lo, .int .i64 hi]) ?_ ?_
  · repeat (first | refine qS ?_ | refine qB ?_ | refine qT rfl ?_ | refine qF rfl ?_ | ((first | refine qR rfl ?_ | refine qK ?_ | refine qE ?_ | refine qW ?_ | refine qM ?_); try simp -dsimp (maxSteps := 2000000) (disch := first | omega | (simp only [qZ] <;> omega) | fail) only [push_cast, ↓qP, ↓reduceIte, Nat.reduceEqDiff, Nat.reduceAdd, Nat.reduceMul, Nat.reduceSub, Nat.reduceLeDiff, Int.reduceToNat, reduceCtorEq, f2, hb1.rdc]) | (refine qA ?_ ?_; (first | omega | (simp only [qL]; omega) | (simp only [qD] at *; omega))))
    refine Wp.loop (α := Nat) (fun j F W => j ≤ kids.length ∧ F 1 = .int .i64 (deep : Int) ∧ F 2 = .pointer (some ⟨p, 0, none⟩) ∧ F 7 = .int .i64 (sizes3 (kids.take j) 0) ∧ F 49 = .slice A kids.length c ∧ F 50 = .int .i64 (kids.length : Int) ∧ F 51 = .int .i64 j ∧ Kp (fun _ => False) w W ∧ Blk W p 33 [.string (B op), .string (B set), .slice A kids.length c, .int .i64 lo, .int .i64 hi]) (fun j => kids.length - j) 0
      ⟨Nat.zero_le _, by simp [upd, f1], by simp [upd, f2], by simp [upd, sizes3], by simp [upd], by simp [upd], by simp [upd], k1, hb1⟩ ?_
    clear k1 hb1 hltp f1 f2
    rintro j F W ⟨hj, f1, f2, f7, f49, f50, f51, k1, hb1⟩
    have hltp := hb1.lt
    rcases Nat.lt_or_ge j kids.length with hlt | hge
    · have c1 : decide ((j : Int) < (kids.length : Int)) = true := decide_eq_true (by omega)
      have hget : kids[j]? = some kids[j] := List.getElem?_eq_getElem hlt
      obtain ⟨b, o, d0, d1, A1, m1, d2, lo1, hi1, rfl, hbl, hD, q0, q1, q2, q3, q4, hre, _⟩ := h.kid k1 hget
      have hmem : kids[j] ∈ kids := List.getElem_mem hlt
      have hgj := Goods_mem hgk hmem
      have hwj := wts_mem hmem
      obtain ⟨z1, z2, z3, z4, z5⟩ := sizes3_kid hg hsz hlt
      have z3' : decide (sizes3 (kids.take j) 0 + size3 kids[j] > 2000) = false := decide_eq_false (by omega)
      refine Sm.out ?_
      repeat (first | ((fail_if_success (first | refine qY (n := 8) ?_ | refine qV (n := 8) ?_)); refine qS ?_) | refine qB ?_ | refine qT rfl ?_ | refine qF rfl ?_ | ((first | refine qR rfl ?_ | refine qK ?_ | refine qE ?_ | refine qW ?_ | refine qM ?_); try simp -dsimp (maxSteps := 2000000) (disch := first | omega | (simp only [qZ] <;> omega) | fail) only [push_cast, ↓qP, ↓reduceIte, Nat.reduceEqDiff, Nat.reduceAdd, Nat.reduceMul, Nat.reduceSub, Nat.reduceLeDiff, Int.reduceToNat, reduceCtorEq, f1, f2, f7, f49, f50, f51, c1, q0, q1, q2, q3, q4]) | (refine qA ?_ ?_; (first | omega | (simp only [qL]; omega) | (simp only [qD] at *; omega))))
      have hq := Blk.setAll (vs := [.string (B d0), .string (B d1), .slice A1 m1 d2, .int .i64 lo1, .int .i64 hi1]) (Blk.new W 33 zRe) rfl
      refine Wp.gen (w := (W.alloc (.cells zRe.toArray 33)).setCells W.heap.size 0 [.string (B d0), .string (B d1), .slice A1 m1 d2, .int .i64 lo1, .int .i64 hi1]) (A := fun W2 => Kp (fun _ => False) W W2 ∧ Blk W2 W.heap.size 33 [.string (B d0), .string (B d1), .slice A1 m1 d2, .int .i64 lo1, .int .i64 hi1]) ⟨((Kp.refl _ W).alloc _).setCells (fun h => absurd h (Nat.lt_irrefl _)) _ _, hq⟩ ?_
      rintro W2 ⟨k2, hq2⟩
      have hb2 := k2.Blk hb1 id
      have hltq := hq2.lt
      have hre2 := hre.Kp (D' := D) k2 (fun _ _ => id) (fun _ h => h)
      repeat (first | refine qS ?_ | refine qB ?_ | refine qT rfl ?_ | refine qF rfl ?_ | ((first | refine qR rfl ?_ | refine qK ?_ | refine qE ?_ | refine qW ?_ | refine qM ?_); try simp -dsimp (maxSteps := 2000000) (disch := first | omega | (simp only [qZ] <;> omega) | fail) only [push_cast, ↓qP, ↓reduceIte, Nat.reduceEqDiff, Nat.reduceAdd, Nat.reduceMul, Nat.reduceSub, Nat.reduceLeDiff, Int.reduceToNat, reduceCtorEq, f1, f2, f7, f49, f50, f51, hq2.rdc]) | (refine qA ?_ ?_; (first | omega | (simp only [qL]; omega) | (simp only [qD] at *; omega))))
      refine CallV.of isCall_57 (ih _ hmem hgj z5 W2 _ (deep + 1) (by omega) hre2) ?_
      rintro _ W3 ⟨rfl, k3⟩
      have hb3 := k3.Blk hb2 id
      refine Sm.out ?_
      repeat (first | refine qS ?_ | refine qB ?_ | refine qT rfl ?_ | refine qF rfl ?_ | ((first | refine qR rfl ?_ | refine qK ?_ | refine qE ?_ | refine qW ?_ | refine qM ?_); try simp -dsimp (maxSteps := 2000000) (disch := first | omega | (simp only [qZ] <;> omega) | fail) only [push_cast, ↓qP, ↓reduceIte, Nat.reduceEqDiff, Nat.reduceAdd, Nat.reduceMul, Nat.reduceSub, Nat.reduceLeDiff, Int.reduceToNat, reduceCtorEq, f1, f2, f7, f49, f50, f51, z3']) | (refine qA ?_ ?_; (first | omega | (simp only [qL]; omega) | (simp only [qD] at *; omega))))
      exact Again.mk (j + 1) ⟨by omega, by simp [upd, f1], by simp [upd, f2], by simp [upd, z2], by simp [upd, f49], by simp [upd, f50], by simp [upd], k1.trans (k2.trans k3), hb3⟩ (by omega)
    · obtain rfl : j = kids.length := by omega
      have c1 : decide ((kids.length : Int) < (kids.length : Int)) = false := decide_eq_false (by omega)
      rw [List.take_length] at f7
      repeat (first | refine qS ?_ | refine qB ?_ | refine qT rfl ?_ | refine qF rfl ?_ | ((first | refine qR rfl ?_ | refine qK ?_ | refine qE ?_ | refine qW ?_ | refine qM ?_); try simp -dsimp (maxSteps := 2000000) (disch := first | omega | (simp only [qZ] <;> omega) | fail) only [push_cast, ↓qP, ↓reduceIte, Nat.reduceEqDiff, Nat.reduceAdd, Nat.reduceMul, Nat.reduceSub, Nat.reduceLeDiff, Int.reduceToNat, reduceCtorEq, f1, f2, f49, f50, f51, c1]) | (refine qA ?_ ?_; (first | omega | (simp only [qL]; omega) | (simp only [qD] at *; omega))))
      exact Mid.mk ⟨by simp [upd, f2], by simp [upd, f7], k1, hb1⟩
  clear k1 hb1 hltp f1 f2
  rintro F w2 ⟨f2, f7, k1, hb1⟩
  have hltp := hb1.lt
  have hz := hsz
  have hz2 : decide (size3 (.node op set kids lo hi) ≤ 2000) = true := decide_eq_true hsz
  obtain ⟨n1, n2, n3, n4, n5, n6, n7, n8, n9, n10, n11, n12, n13, n14, n15⟩ := op_ne
  rcases hgg.out with ⟨rfl, hk, _⟩ | ⟨rfl, hk⟩ | ⟨rfl, hk⟩ | ⟨rfl, hk⟩ | ⟨rfl, hk, _⟩ | ⟨rfl, hk, _⟩
  · simp only [size3, if_true] at hz2 ⊢
    obtain ⟨e1, e2, e3, e4, e5, e6⟩ := ops_set
    have hone : decide ((1 : Int) ≤ 2000) = true := rfl
    repeat (first | refine qS ?_ | refine qB ?_ | refine qT rfl ?_ | refine qF rfl ?_ | ((first | refine qR rfl ?_ | refine qK ?_ | refine qE ?_ | refine qW ?_ | refine qM ?_); try simp -dsimp (maxSteps := 2000000) (disch := first | omega | (simp only [qZ] <;> omega) | fail) only [push_cast, ↓qP, ↓reduceIte, Nat.reduceEqDiff, Nat.reduceAdd, Nat.reduceMul, Nat.reduceSub, Nat.reduceLeDiff, Int.reduceToNat, reduceCtorEq, f2, f7, hb1.rdc, e1, e2, e3, e4, e5, e6, hone]) | (refine qA ?_ ?_; (first | omega | (simp only [qL]; omega) | (simp only [qD] at *; omega))))
    exact Ret.mk ⟨rfl, k1⟩
  · simp only [size3, Ne.symm n1, if_false, if_true] at hz2 ⊢
    obtain ⟨e1, e2, e3, e4, e5, e6⟩ := ops_bol
    have hone : decide ((1 : Int) ≤ 2000) = true := rfl
    repeat (first | refine qS ?_ | refine qB ?_ | refine qT rfl ?_ | refine qF rfl ?_ | ((first | refine qR rfl ?_ | refine qK ?_ | refine qE ?_ | refine qW ?_ | refine qM ?_); try simp -dsimp (maxSteps := 2000000) (disch := first | omega | (simp only [qZ] <;> omega) | fail) only [push_cast, ↓qP, ↓reduceIte, Nat.reduceEqDiff, Nat.reduceAdd, Nat.reduceMul, Nat.reduceSub, Nat.reduceLeDiff, Int.reduceToNat, reduceCtorEq, f2, f7, hb1.rdc, e1, e2, e3, e4, e5, e6, hone]) | (refine qA ?_ ?_; (first | omega | (simp only [qL]; omega) | (simp only [qD] at *; omega))))
    exact Ret.mk ⟨rfl, k1⟩
  · simp only [size3, Ne.symm n2, Ne.symm n6, if_false, if_true] at hz2 ⊢
    obtain ⟨e1, e2, e3, e4, e5, e6⟩ := ops_eol
    have hone : decide ((1 : Int) ≤ 2000) = true := rfl
    repeat (first | refine qS ?_ | refine qB ?_ | refine qT rfl ?_ | refine qF rfl ?_ | ((first | refine qR rfl ?_ | refine qK ?_ | refine qE ?_ | refine qW ?_ | refine qM ?_); try simp -dsimp (maxSteps := 2000000) (disch := first | omega | (simp only [qZ] <;> omega) | fail) only [push_cast, ↓qP, ↓reduceIte, Nat.reduceEqDiff, Nat.reduceAdd, Nat.reduceMul, Nat.reduceSub, Nat.reduceLeDiff, Int.reduceToNat, reduceCtorEq, f2, f7, hb1.rdc, e1, e2, e3, e4, e5, e6, hone]) | (refine qA ?_ ?_; (first | omega | (simp only [qL]; omega) | (simp only [qD] at *; omega))))
    exact Ret.mk ⟨rfl, k1⟩
  · simp only [size3, Ne.symm n3, Ne.symm n7, Ne.symm n10, n13, n14, if_false] at hz2 hz ⊢
    have hm : min (sizes3 kids 0) 2001 = sizes3 kids 0 := by omega
    rw [hm] at hz2 ⊢
    obtain ⟨e1, e2, e3, e4, e5, e6⟩ := ops_cat
    repeat (first | refine qS ?_ | refine qB ?_ | refine qT rfl ?_ | refine qF rfl ?_ | ((first | refine qR rfl ?_ | refine qK ?_ | refine qE ?_ | refine qW ?_ | refine qM ?_); try simp -dsimp (maxSteps := 2000000) (disch := first | omega | (simp only [qZ] <;> omega) | fail) only [push_cast, ↓qP, ↓reduceIte, Nat.reduceEqDiff, Nat.reduceAdd, Nat.reduceMul, Nat.reduceSub, Nat.reduceLeDiff, Int.reduceToNat, reduceCtorEq, f2, f7, hb1.rdc, e1, e2, e3, e4, e5, e6, hz2]) | (refine qA ?_ ?_; (first | omega | (simp only [qL]; omega) | (simp only [qD] at *; omega))))
    exact Ret.mk ⟨rfl, k1⟩
  · simp only [size3, Ne.symm n4, Ne.symm n8, Ne.symm n11, if_false, if_true] at hz2 hz ⊢
    have hm : min (sizes3 kids 0 + 1) 2001 = sizes3 kids 0 + 1 := by omega
    rw [hm] at hz2 ⊢
    obtain ⟨e1, e2, e3, e4, e5, e6⟩ := ops_alt
    repeat (first | refine qS ?_ | refine qB ?_ | refine qT rfl ?_ | refine qF rfl ?_ | ((first | refine qR rfl ?_ | refine qK ?_ | refine qE ?_ | refine qW ?_ | refine qM ?_); try simp -dsimp (maxSteps := 2000000) (disch := first | omega | (simp only [qZ] <;> omega) | fail) only [push_cast, ↓qP, ↓reduceIte, Nat.reduceEqDiff, Nat.reduceAdd, Nat.reduceMul, Nat.reduceSub, Nat.reduceLeDiff, Int.reduceToNat, reduceCtorEq, f2, f7, hb1.rdc, e1, e2, e3, e4, e5, e6, hz2]) | (refine qA ?_ ?_; (first | omega | (simp only [qL]; omega) | (simp only [qD] at *; omega))))
    exact Ret.mk ⟨rfl, k1⟩
  · obtain ⟨b1, b2, b3, b4, b5, b6⟩ := hgb.out rfl
    simp only [size3, Ne.symm n5, Ne.symm n9, Ne.symm n12, Ne.symm n15, if_false, if_true] at hz2 hz ⊢
    have hm : min (sizes3 kids 0 * (if hi < 0 then lo + 1 else max 1 hi) + 1) 2001 = sizes3 kids 0 * (if hi < 0 then lo + 1 else max 1 hi) + 1 := by omega
    rw [hm] at hz2 ⊢
    have g1 : ((kids.length : Int) != 1) = false := by rw [hk]; rfl
    have g2 : decide (lo < 0) = false := decide_eq_false (by omega)
    have g3 : decide (lo > 255) = false := decide_eq_false (by omega)
    have g4 : decide (hi > 255) = false := decide_eq_false (by omega)
    have g5 : decide (hi < -1) = false := decide_eq_false (by omega)
    have hmn : 0 ≤ sizes3 kids 0 * (if hi < 0 then lo + 1 else max 1 hi) := Int.mul_nonneg hfit.1 (by split <;> omega)
    obtain ⟨e1, e2, e3, e4, e5, e6⟩ := ops_rep
    rcases Bool.eq_false_or_eq_true (decide (hi < 0)) with c6 | c6
    · have c6' : hi < 0 := by simpa using c6
      rw [if_pos c6'] at hz2 hmn hm hz ⊢
      have g6 : decide (hi ≥ 0) = false := decide_eq_false (by omega)
      repeat (first | refine qS ?_ | refine qB ?_ | refine qT rfl ?_ | refine qF rfl ?_ | ((first | refine qR rfl ?_ | refine qK ?_ | refine qE ?_ | refine qW ?_ | refine qM ?_); try simp -dsimp (maxSteps := 2000000) (disch := first | omega | (simp only [qZ] <;> omega) | fail) only [push_cast, ↓qP, ↓reduceIte, Nat.reduceEqDiff, Nat.reduceAdd, Nat.reduceMul, Nat.reduceSub, Nat.reduceLeDiff, Int.reduceToNat, reduceCtorEq, f2, f7, hb1.rdc, e1, e2, e3, e4, e5, e6, g1, g2, g3, g4, g5, g6, c6, hz2]) | (refine qA ?_ ?_; (first | omega | (simp only [qL]; omega) | (simp only [qD] at *; omega))))
      exact Ret.mk ⟨rfl, k1⟩
    · have c6' : ¬ hi < 0 := by simpa using c6
      rw [if_neg c6'] at hz2 hmn hm hz ⊢
      have g6 : decide (hi ≥ 0) = true := decide_eq_true (by omega)
      have g7 : decide (hi < lo) = false := decide_eq_false (by omega)
      repeat (first | refine qS ?_ | refine qB ?_ | refine qT rfl ?_ | refine qF rfl ?_ | ((first | refine qR rfl ?_ | refine qK ?_ | refine qE ?_ | refine qW ?_ | refine qM ?_); try simp -dsimp (maxSteps := 2000000) (disch := first | omega | (simp only [qZ] <;> omega) | fail) only [push_cast, ↓qP, ↓reduceIte, Nat.reduceEqDiff, Nat.reduceAdd, Nat.reduceMul, Nat.reduceSub, Nat.reduceLeDiff, Int.reduceToNat, reduceCtorEq, f2, f7, hb1.rdc, e1, e2, e3, e4, e5, e6, g1, g2, g3, g4, g5, g6, g7, c6, hz2]) | (refine qA ?_ ?_; (first | omega | (simp only [qL]; omega) | (simp only [qD] at *; omega))))
      exact Ret.mk ⟨rfl, k1⟩
end
end Go.Proofs.Ytddichibegppjaa
