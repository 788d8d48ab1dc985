/- The reference's matcher: Ends. -/
import Derived.Test.YtddichibegppjaaZ948b658
import Derived.Test.YtddichibegppjaaVs
import Derived.Test.YtddichibegppjaaZ8180551
import Derived.Test.YtddichibegppjaaW0
import Derived.Test.YtddichibegppjaaP9
import Derived.Test.YtddichibegppjaaVp
set_option linter.unusedSimpArgs false
set_option linter.unusedVariables false
set_option maxRecDepth 100000
set_option maxHeartbeats 8000000
attribute [local irreducible] Go.VC.OpV Go.VC.CallV Go.VC.Wp Go.VC.post
namespace Go.Proofs.Ytddichibegppjaa
open Go Go.VC

theorem endsCat_snoc (l : List UInt8) (k : Re) : ∀ (ks : List Re) (fr : List Bool), endsCat l (ks ++ [k]) fr = ends3 l k (endsCat l ks fr)
  | [], fr => by simp [endsCat]
  | e :: ks, fr => by simp only [List.cons_append, endsCat]; exact endsCat_snoc l k ks _
theorem endsAlt_snoc (l : List UInt8) (k : Re) (fr : List Bool) : ∀ (ks : List Re) (out : List Bool), endsAlt l (ks ++ [k]) fr out = orB (endsAlt l ks fr out) (ends3 l k fr)
  | [], out => by simp [endsAlt]
  | e :: ks, out => by simp only [List.cons_append, endsAlt]; exact endsAlt_snoc l k fr ks _
theorem iterE_succ (f : List Bool → List Bool) : ∀ (n : Nat) (x : List Bool), iterE f (n + 1) x = f (iterE f n x)
  | 0, x => rfl
  | n + 1, x => by rw [iterE]; exact iterE_succ f n (f x)
theorem ends3_len (l : List UInt8) (e : Re) (hg : Good e) (fr : List Bool) (hf : fr.length = l.length + 1) : (ends3 l e fr).length = l.length + 1 := (ends3_spec l e hg fr hf).1
theorem Goods_take {ks : List Re} (h : Goods ks) (n : Nat) : Goods (ks.take n) := by
  induction ks generalizing n with
  | nil => simpa using h
  | cons k ks ih =>
    cases n with
    | zero => simp [Goods]
    | succ n => simp only [Goods, List.take_succ_cons] at h ⊢; exact ⟨h.1, ih h.2 n⟩
theorem setE_get (l set : List UInt8) (fr : List Bool) (j : Nat) (hj : j < l.length + 1) : (setE l set fr).getD j false = match j with | 0 => false | i + 1 => fr.getD i false && set.contains (byteAt l i) := by
  simp only [setE, List.getD_eq_getElem?_getD, List.getElem?_map, List.getElem?_range hj, Option.map_some, Option.getD_some]
  cases j <;> rfl

abbrev OutE (w : World) (n : Nat) (x : List Bool) (e : Ending) (w' : World) : Prop :=
  ∃ b c, e = .returned (.slice (some ⟨b, 0, none⟩) n c) ∧ Bs w' b x ∧ Kp (fun _ => False) w w'

section
variable {D : Nat → Prop} {l : List UInt8}

theorem ends3_any (hl : l.length ≤ 1000000) : ∀ e : Re, Good e → wt e ≤ 1000000000 → ∀ (w : World) (cs : List Value) (b c : Nat) (fr : List Bool), IsRe w D e cs → fr.length = l.length + 1 → Bs w b fr →
    Calls Try.prog 62 #[.agg cs.toArray, .string (B l), .slice (some ⟨b, 0, none⟩) (l.length + 1) c] w (OutE w (l.length + 1) (ends3 l e fr)) := by
  refine Re.ind fun op set kids lo hi ih hg hwt w cs b c fr h hfr hbs => ?_
  obtain ⟨A, cc, rfl⟩ := h.cells
  simp only [wt] at hwt
  have hkl := wts_len kids
  have hgb := hg.bounds
  have hgk := hg.kids
  replace hgb : Hide _ := ⟨hgb⟩
  refine enter (n := 149) (args := [.agg #[.string (B op), .string (B set), .slice A kids.length cc, .int .i64 lo, .int .i64 hi], .string (B l), .slice (some ⟨b, 0, none⟩) (l.length + 1) c]) Try.func62 rfl rfl rfl (by simp) ?_
  refine Wp.seq (Wp.region rfl ?_)
  simp -dsimp (maxSteps := 2000000) (disch := first | omega | (simp only [qZ] <;> omega) | fail) only [push_cast, ↓qP, ↓reduceIte, seval]
  refine Wp.seq (Wp.region rfl ?_)
  simp -dsimp (maxSteps := 2000000) (disch := first | omega | (simp only [qZ] <;> omega) | fail) only [push_cast, ↓qP, ↓reduceIte, seval]
  refine ⟨by omega, ?_⟩
  obtain ⟨p, hp⟩ : ∃ p, p = w.heap.size := ⟨_, rfl⟩
  obtain ⟨q, hq⟩ : ∃ q, q = w.heap.size + 1 := ⟨_, rfl⟩
  rw [← hq, ← hp]
  refine Wp.gen (A := fun W => Kp (fun _ => False) w W ∧ Blk W p 33 [.string (B op), .string (B set), .slice A kids.length cc, .int .i64 lo, .int .i64 hi] ∧ Blk W q 4 (bools (noP l))) ⟨((Kp.refl _ w).alloc _).alloc _, by rw [hp]; exact (Blk.new w 33 [.string (B op), .string (B set), .slice A kids.length cc, .int .i64 lo, .int .i64 hi]).alloc _, ?_⟩ ?_
  · have := Blk.new (w.alloc (.cells (List.toArray [.string (B op), .string (B set), .slice A kids.length cc, .int .i64 lo, .int .i64 hi]) 33)) 4 (zeros [.bool false] (l.length + 1))
    rw [World.size_alloc, ← hq, zeros_one] at this
    simpa [bools, noP, zeros_one] using this
  rintro w1 ⟨k1, hp1, hq1⟩
  have hN : (noP l).length = l.length + 1 := by simp [noP]
  have e1 : (op == [115, 101, 116]) = decide (op = opSet) := list_eqb _ _
  have e2 : (op == [98, 111, 108]) = decide (op = opBol) := list_eqb _ _
  have e3 : (op == [101, 111, 108]) = decide (op = opEol) := list_eqb _ _
  have e4 : (op == [97, 108, 116]) = decide (op = opAlt) := list_eqb _ _
  have e5 : (op == [114, 101, 112]) = decide (op = opRep) := list_eqb _ _
  have e6 : (op == [99, 97, 116]) = decide (op = opCat) := list_eqb _ _
  have hqw : ¬ q < w.heap.size := by omega
  have hpq : p ≠ q := by omega
  refine Wp.cut (fun F W => ∃ b c, F 7 = .slice (some ⟨b, 0, none⟩) (l.length + 1) c ∧ Bs W b (ends3 l (.node op set kids lo hi) fr) ∧ Kp (fun _ => False) w W) ?_ ?_
  rotate_left
  · rintro F W ⟨b, c, f7, hb, hk⟩
    repeat (first | refine qS ?_ | refine qB ?_ | refine qT rfl ?_ | refine qF rfl ?_ | ((first | refine qR rfl ?_ | refine qK ?_ | refine qE ?_ | refine qW ?_ | refine qM ?_); try simp -dsimp (maxSteps := 2000000) (disch := first | omega | (simp only [qZ] <;> omega) | fail) only [push_cast, ↓qP, ↓reduceIte, seval, f7]) | (refine qA ?_ ?_; (first | omega | (simp only [qL]; omega) | (simp only [qD] at *; omega))))
    exact Ret.mk ⟨b, c, rfl, hb, hk⟩
  have hltp := hp1.lt
  have hltq := hq1.lt
  have hbs1 := hbs.Kp k1
  have hltb := hbs1.1
  simp only [ends3]
  by_cases c1 : op = opSet
  · have c1' := c1
    rw [decide_eq_true c1] at e1
    rw [if_pos c1]
    repeat (first | refine qS ?_ | refine qB ?_ | refine qT rfl ?_ | refine qF rfl ?_ | ((first | refine qR rfl ?_ | refine qK ?_ | refine qE ?_ | refine qW ?_ | refine qM ?_); try simp -dsimp (maxSteps := 2000000) (disch := first | omega | (simp only [qZ] <;> omega) | fail) only [push_cast, ↓qP, ↓reduceIte, seval, hp1.rdc, e1]) | (refine qA ?_ ?_; (first | omega | (simp only [qL]; omega) | (simp only [qD] at *; omega))))
    refine Wp.loop (α := Nat) (fun j F W => j ≤ l.length ∧ F 1 = .string (B l) ∧ F 2 = .slice (some ⟨b, 0, none⟩) (l.length + 1) c ∧ F 3 = .pointer (some ⟨p, 0, none⟩) ∧ F 7 = .slice (some ⟨q, 0, none⟩) (l.length + 1) (l.length + 1) ∧ F 8 = .int .i64 j ∧ Blk W p 33 [.string (B op), .string (B set), .slice A kids.length cc, .int .i64 lo, .int .i64 hi] ∧ Blk W q 4 (bools (upto (setE l set fr) (j + 1))) ∧ Kp (fun _ => False) w W) (fun j => l.length - j) 0
      ⟨Nat.zero_le _, by simp [upd, arg], by simp [upd, arg], by simp [upd, hp], by simp [upd, hq], by simp [upd], hp1, ?_, k1⟩ ?_
    · have hx0 : (setE l set fr).getD 0 false = false := setE_get l set fr 0 (by omega)
      rw [upto_skip _ _ hx0, upto_zero, (setE_spec l set fr hfr).1]
      exact hq1
    clear hp1 hq1 hbs1 hltp hltq hltb k1
    rintro j F W ⟨hj, f1, f2, f3, f7, f8, hp1, hq1, k1⟩
    have hltp := hp1.lt
    have hltq := hq1.lt
    have hbs1 := hbs.Kp k1
    have hltb := hbs1.1
    have hxl := (setE_spec l set fr hfr).1
    rcases Nat.lt_or_ge j l.length with hlt | hge
    · have c1 : decide ((j : Int) < (l.length : Int)) = true := decide_eq_true (by omega)
      have r1 := hbs1.2 j (by omega)
      have hx := setE_get l set fr (j + 1) (by omega)
      simp only at hx
      rcases Bool.eq_false_or_eq_true (fr.getD j false) with c2 | c2
      · rw [c2] at r1 hx
        rw [Bool.true_and] at hx
        repeat (first | refine qS ?_ | refine qB ?_ | refine qT rfl ?_ | refine qF rfl ?_ | ((first | refine qR rfl ?_ | refine qK ?_ | refine qE ?_ | refine qW ?_ | refine qM ?_); try simp -dsimp (maxSteps := 2000000) (disch := first | omega | (simp only [qZ] <;> omega) | fail) only [push_cast, ↓qP, ↓reduceIte, seval, f1, f2, f3, f7, f8, c1]) | (refine qA ?_ ?_; (first | omega | (simp only [qL]; omega) | (simp only [qD] at *; omega))))
        refine Wp.draw [0, 0, 3, 7, 15, 31, 63, 31, 31, 415, 1023, 2047] [10] (.op 0 false false [] <| .op 1 false false [] <| .op 2 false false [] <| .op 3 false false [] <| .op 4 false false [] <| .op 5 false false [] <| .op 6 false false [] <| .op 7 false false [] <| .op 8 false false [] <| .op 9 false false [] <| .op 10 true false [] <| .op 11 false false [] <| .nil) mixed (by kernel_rfl) ?_
        simp -dsimp (maxSteps := 2000000) (disch := first | omega | (simp only [qZ] <;> omega) | fail) only [push_cast, ↓qP, ↓reduceIte, seval, f1, f2, f3, f7, f8, r1, hp1.rdc]
        refine ⟨by omega, by omega, ?_⟩
        refine CallV.of isCall_77 (has_any set (byteAt l j) W.drew (by have := hg.set c1'; omega)) ?_
        rintro _ _ ⟨rfl, rfl⟩
        have hcell : rdc W q (j + 1) = some (.bool ((upto (setE l set fr) (j + 1)).getD (j + 1) false)) := by rw [hq1.rdc]; exact bools_get _ _ (by rw [upto_len]; omega)
        rcases Bool.eq_false_or_eq_true (set.contains (byteAt l j)) with c3 | c3
        · rw [c3] at hx
          have hset := hq1.set (j + 1) (.bool ((setE l set fr).getD (j + 1) false))
          rw [bools_set, ← upto_succ _ _ (by omega), hx] at hset
          have hix : ((j : Int) + 1).toNat = j + 1 := by omega
          refine Sm.out ?_
          repeat (first | refine qS ?_ | refine qB ?_ | refine qT rfl ?_ | refine qF rfl ?_ | ((first | refine qR rfl ?_ | refine qK ?_ | refine qE ?_ | refine qW ?_ | refine qM ?_); try simp -dsimp (maxSteps := 2000000) (disch := first | omega | (simp only [qZ] <;> omega) | fail) only [push_cast, ↓qP, ↓reduceIte, seval, f1, f2, f3, f7, f8, c3, hix, hcell, hq1.fz]) | (refine qA ?_ ?_; (first | omega | (simp only [qL]; omega) | (simp only [qD] at *; omega))))
          exact Again.mk (j + 1) ⟨by omega, by simp [upd, f1], by simp [upd, f2], by simp [upd, f3], by simp [upd, f7], by simp [upd], hp1.drew.far hpq _, hset, (k1.drew.setCell (fun h => absurd h hqw) _)⟩ (by omega)
        · rw [c3] at hx
          refine Sm.out ?_
          repeat (first | refine qS ?_ | refine qB ?_ | refine qT rfl ?_ | refine qF rfl ?_ | ((first | refine qR rfl ?_ | refine qK ?_ | refine qE ?_ | refine qW ?_ | refine qM ?_); try simp -dsimp (maxSteps := 2000000) (disch := first | omega | (simp only [qZ] <;> omega) | fail) only [push_cast, ↓qP, ↓reduceIte, seval, f1, f2, f3, f7, f8, c3]) | (refine qA ?_ ?_; (first | omega | (simp only [qL]; omega) | (simp only [qD] at *; omega))))
          exact Again.mk (j + 1) ⟨by omega, by simp [upd, f1], by simp [upd, f2], by simp [upd, f3], by simp [upd, f7], by simp [upd], hp1.drew, by rw [upto_skip _ _ hx]; exact hq1, k1.drew⟩ (by omega)
      · rw [c2] at r1 hx
        rw [Bool.false_and] at hx
        repeat (first | refine qS ?_ | refine qB ?_ | refine qT rfl ?_ | refine qF rfl ?_ | ((first | refine qR rfl ?_ | refine qK ?_ | refine qE ?_ | refine qW ?_ | refine qM ?_); try simp -dsimp (maxSteps := 2000000) (disch := first | omega | (simp only [qZ] <;> omega) | fail) only [push_cast, ↓qP, ↓reduceIte, seval, f1, f2, f3, f7, f8, c1]) | (refine qA ?_ ?_; (first | omega | (simp only [qL]; omega) | (simp only [qD] at *; omega))))
        refine Wp.draw [0, 0, 3, 7, 15, 31, 63, 31, 31, 415, 1023, 2047] [10] (.op 0 false false [] <| .op 1 false false [] <| .op 2 false false [] <| .op 3 false false [] <| .op 4 false false [] <| .op 5 false false [] <| .op 6 false false [] <| .op 7 false false [] <| .op 8 false false [] <| .op 9 false false [] <| .op 10 true false [] <| .op 11 false false [] <| .nil) mixed (by kernel_rfl) ?_
        simp -dsimp (maxSteps := 2000000) (disch := first | omega | (simp only [qZ] <;> omega) | fail) only [push_cast, ↓qP, ↓reduceIte, seval, f1, f2, f3, f7, f8, r1]
        refine ⟨by omega, ?_⟩
        refine Sm.out ?_
        repeat (first | refine qS ?_ | refine qB ?_ | refine qT rfl ?_ | refine qF rfl ?_ | ((first | refine qR rfl ?_ | refine qK ?_ | refine qE ?_ | refine qW ?_ | refine qM ?_); try simp -dsimp (maxSteps := 2000000) (disch := first | omega | (simp only [qZ] <;> omega) | fail) only [push_cast, ↓qP, ↓reduceIte, seval, f1, f2, f3, f7, f8]) | (refine qA ?_ ?_; (first | omega | (simp only [qL]; omega) | (simp only [qD] at *; omega))))
        exact Again.mk (j + 1) ⟨by omega, by simp [upd, f1], by simp [upd, f2], by simp [upd, f3], by simp [upd, f7], by simp [upd], hp1.drew, by rw [upto_skip _ _ hx]; exact hq1, k1.drew⟩ (by omega)
    · obtain rfl : j = l.length := by omega
      have c1 : decide ((l.length : Int) < (l.length : Int)) = false := decide_eq_false (by omega)
      rw [← hxl, upto_all] at hq1
      repeat (first | refine qS ?_ | refine qB ?_ | refine qT rfl ?_ | refine qF rfl ?_ | ((first | refine qR rfl ?_ | refine qK ?_ | refine qE ?_ | refine qW ?_ | refine qM ?_); try simp -dsimp (maxSteps := 2000000) (disch := first | omega | (simp only [qZ] <;> omega) | fail) only [push_cast, ↓qP, ↓reduceIte, seval, f1, f2, f3, f7, f8, c1]) | (refine qA ?_ ?_; (first | omega | (simp only [qL]; omega) | (simp only [qD] at *; omega))))
      exact Mid.mk ⟨q, l.length + 1, by simp [upd, f7], blk_bs hq1, k1⟩
  rw [decide_eq_false c1] at e1
  rw [if_neg c1]
  by_cases c2 : op = opBol
  · rw [decide_eq_true c2] at e2
    rw [if_pos c2]
    have r1 := hbs1.2 0 (by omega)
    have hcell : rdc w1 q 0 = some (.bool ((noP l).getD 0 false)) := by rw [hq1.rdc]; exact bools_get _ _ (by omega)
    repeat (first | refine qS ?_ | refine qB ?_ | refine qT rfl ?_ | refine qF rfl ?_ | ((first | refine qR rfl ?_ | refine qK ?_ | refine qE ?_ | refine qW ?_ | refine qM ?_); try simp -dsimp (maxSteps := 2000000) (disch := first | omega | (simp only [qZ] <;> omega) | fail) only [push_cast, ↓qP, ↓reduceIte, seval, hp1.rdc, e1, e2, r1, hcell, hq1.fz]) | (refine qA ?_ ?_; (first | omega | (simp only [qL]; omega) | (simp only [qD] at *; omega))))
    have hset := hq1.set 0 (.bool (fr.getD 0 false))
    rw [bools_set] at hset
    exact Mid.mk ⟨q, l.length + 1, by simp [upd, hq], blk_bs hset, k1.setCell (fun h => absurd h hqw) _⟩
  rw [decide_eq_false c2] at e2
  rw [if_neg c2]
  by_cases c3 : op = opEol
  · rw [decide_eq_true c3] at e3
    rw [if_pos c3]
    have r1 := hbs1.2 l.length (by omega)
    have hcell : rdc w1 q l.length = some (.bool ((noP l).getD l.length false)) := by rw [hq1.rdc]; exact bools_get _ _ (by omega)
    repeat (first | refine qS ?_ | refine qB ?_ | refine qT rfl ?_ | refine qF rfl ?_ | ((first | refine qR rfl ?_ | refine qK ?_ | refine qE ?_ | refine qW ?_ | refine qM ?_); try simp -dsimp (maxSteps := 2000000) (disch := first | omega | (simp only [qZ] <;> omega) | fail) only [push_cast, ↓qP, ↓reduceIte, seval, hp1.rdc, e1, e2, e3, r1, hcell, hq1.fz]) | (refine qA ?_ ?_; (first | omega | (simp only [qL]; omega) | (simp only [qD] at *; omega))))
    have hset := hq1.set l.length (.bool (fr.getD l.length false))
    rw [bools_set] at hset
    exact Mid.mk ⟨q, l.length + 1, by simp [upd, hq], blk_bs hset, k1.setCell (fun h => absurd h hqw) _⟩
  rw [decide_eq_false c3] at e3
  rw [if_neg c3]
  by_cases c4 : op = opCat
  · rw [decide_eq_true c4] at e6
    rw [if_pos c4]
    repeat (first | refine qS ?_ | refine qB ?_ | refine qT rfl ?_ | refine qF rfl ?_ | ((first | refine qR rfl ?_ | refine qK ?_ | refine qE ?_ | refine qW ?_ | refine qM ?_); try simp -dsimp (maxSteps := 2000000) (disch := first | omega | (simp only [qZ] <;> omega) | fail) only [push_cast, ↓qP, ↓reduceIte, seval, hp1.rdc, e1, e2, e3, e6]) | (refine qA ?_ ?_; (first | omega | (simp only [qL]; omega) | (simp only [qD] at *; omega))))
    refine Wp.loop (α := Nat) (fun j F W => j ≤ kids.length ∧ F 1 = .string (B l) ∧ F 3 = .pointer (some ⟨p, 0, none⟩) ∧ F 9 = .int .i64 j ∧ Blk W p 33 [.string (B op), .string (B set), .slice A kids.length cc, .int .i64 lo, .int .i64 hi] ∧ Kp (fun _ => False) w W ∧ ∃ b c, F 7 = .slice (some ⟨b, 0, none⟩) (l.length + 1) c ∧ Bs W b (endsCat l (kids.take j) fr)) (fun j => kids.length - j) 0
      ⟨Nat.zero_le _, by simp [upd, arg], by simp [upd, hp], by simp [upd], hp1, k1, b, c, by simp [upd, arg], by simpa [endsCat] using hbs1⟩ ?_
    clear k1 hp1 hq1 hbs1 hltp hltq hltb
    rintro j F W ⟨hj, f1, f3, f9, hp1, k1, b, c, f7, hb⟩
    have hltp := hp1.lt
    rcases Nat.lt_or_ge j kids.length with hlt | hge
    · have c1 : decide ((j : Int) < (kids.length : Int)) = true := decide_eq_true (by omega)
      have hget : kids[j]? = some kids[j] := (List.getElem?_eq_getElem hlt)
      obtain ⟨kb, o, d0, d1, A1, m1, d2, lo1, hi1, rfl, hbl, hD, q0, q1, q2, q3, q4, hre, _⟩ := h.kid k1 hget
      have hmem : kids[j] ∈ kids := List.mem_of_getElem? hget
      have hgj := Goods_mem hgk hmem
      have hwj := wts_mem hmem
      have hlen := (endsCat_spec l (kids.take j) (Goods_take hgk j) fr hfr).1
      repeat (first | refine qS ?_ | refine qB ?_ | refine qT rfl ?_ | refine qF rfl ?_ | ((first | refine qR rfl ?_ | refine qK ?_ | refine qE ?_ | refine qW ?_ | refine qM ?_); try simp -dsimp (maxSteps := 2000000) (disch := first | omega | (simp only [qZ] <;> omega) | fail) only [push_cast, ↓qP, ↓reduceIte, seval, f1, f3, f9, f7, hp1.rdc, c1, q0, q1, q2, q3, q4]) | (refine qA ?_ ?_; (first | omega | (simp only [qL]; omega) | (simp only [qD] at *; omega))))
      refine CallV.of isCall_62 (ih _ hmem hgj (by omega) W _ b c _ hre hlen hb) ?_
      rintro _ W2 ⟨b2, cap2, rfl, hb2, k2⟩
      refine Sm.out ?_
      repeat (first | refine qS ?_ | refine qB ?_ | refine qT rfl ?_ | refine qF rfl ?_ | ((first | refine qR rfl ?_ | refine qK ?_ | refine qE ?_ | refine qW ?_ | refine qM ?_); try simp -dsimp (maxSteps := 2000000) (disch := first | omega | (simp only [qZ] <;> omega) | fail) only [push_cast, ↓qP, ↓reduceIte, seval, f1, f3, f9]) | (refine qA ?_ ?_; (first | omega | (simp only [qL]; omega) | (simp only [qD] at *; omega))))
      exact Again.mk (j + 1) ⟨by omega, by simp [upd, f1], by simp [upd, f3], by simp [upd], k2.Blk hp1 id, k1.trans k2, b2, cap2, by simp [upd], by rw [List.take_succ_eq_append_getElem hlt, endsCat_snoc]; exact hb2⟩ (by omega)
    · obtain rfl : j = kids.length := by omega
      have c1 : decide ((kids.length : Int) < (kids.length : Int)) = false := decide_eq_false (by omega)
      rw [List.take_length] at hb
      repeat (first | refine qS ?_ | refine qB ?_ | refine qT rfl ?_ | refine qF rfl ?_ | ((first | refine qR rfl ?_ | refine qK ?_ | refine qE ?_ | refine qW ?_ | refine qM ?_); try simp -dsimp (maxSteps := 2000000) (disch := first | omega | (simp only [qZ] <;> omega) | fail) only [push_cast, ↓qP, ↓reduceIte, seval, f1, f3, f9, hp1.rdc, c1]) | (refine qA ?_ ?_; (first | omega | (simp only [qL]; omega) | (simp only [qD] at *; omega))))
      exact Mid.mk ⟨b, c, by simp [upd, f7], hb, k1⟩
  rw [decide_eq_false c4] at e6
  rw [if_neg c4]
  by_cases c5 : op = opAlt
  · rw [decide_eq_true c5] at e4
    rw [if_pos c5]
    repeat (first | refine qS ?_ | refine qB ?_ | refine qT rfl ?_ | refine qF rfl ?_ | ((first | refine qR rfl ?_ | refine qK ?_ | refine qE ?_ | refine qW ?_ | refine qM ?_); try simp -dsimp (maxSteps := 2000000) (disch := first | omega | (simp only [qZ] <;> omega) | fail) only [push_cast, ↓qP, ↓reduceIte, seval, hp1.rdc, e1, e2, e3, e6, e4]) | (refine qA ?_ ?_; (first | omega | (simp only [qL]; omega) | (simp only [qD] at *; omega))))
    refine Wp.loop (α := Nat) (fun j F W => j ≤ kids.length ∧ F 1 = .string (B l) ∧ F 2 = .slice (some ⟨b, 0, none⟩) (l.length + 1) c ∧ F 3 = .pointer (some ⟨p, 0, none⟩) ∧ F 10 = .int .i64 j ∧ Blk W p 33 [.string (B op), .string (B set), .slice A kids.length cc, .int .i64 lo, .int .i64 hi] ∧ Kp (fun _ => False) w W ∧ ∃ b c, F 7 = .slice (some ⟨b, 0, none⟩) (l.length + 1) c ∧ Bs W b (endsAlt l (kids.take j) fr (noP l))) (fun j => kids.length - j) 0
      ⟨Nat.zero_le _, by simp [upd, arg], by simp [upd, arg], by simp [upd, hp], by simp [upd], hp1, k1, q, l.length + 1, by simp [upd, hq], by simpa [endsAlt] using blk_bs hq1⟩ ?_
    clear hp1 hq1 hbs1 hltp hltq hltb k1
    rintro j F W ⟨hj, f1, f2, f3, f10, hp1, k1, b', c', f7, hb⟩
    have hltp := hp1.lt
    rcases Nat.lt_or_ge j kids.length with hlt | hge
    · have c1 : decide ((j : Int) < (kids.length : Int)) = true := decide_eq_true (by omega)
      have hget : kids[j]? = some kids[j] := (List.getElem?_eq_getElem hlt)
      obtain ⟨kb, o, d0, d1, A1, m1, d2, lo1, hi1, rfl, hbl, hD, q0, q1, q2, q3, q4, hre, _⟩ := h.kid k1 hget
      have hmem : kids[j] ∈ kids := List.mem_of_getElem? hget
      have hgj := Goods_mem hgk hmem
      have hwj := wts_mem hmem
      have hlen := (endsAlt_spec l (kids.take j) (Goods_take hgk j) fr (noP l) hfr hN).1
      have hlen2 := ends3_len l _ hgj fr hfr
      have hbs1 := hbs.Kp k1
      repeat (first | refine qS ?_ | refine qB ?_ | refine qT rfl ?_ | refine qF rfl ?_ | ((first | refine qR rfl ?_ | refine qK ?_ | refine qE ?_ | refine qW ?_ | refine qM ?_); try simp -dsimp (maxSteps := 2000000) (disch := first | omega | (simp only [qZ] <;> omega) | fail) only [push_cast, ↓qP, ↓reduceIte, seval, f1, f2, f3, f10, f7, hp1.rdc, c1, q0, q1, q2, q3, q4]) | (refine qA ?_ ?_; (first | omega | (simp only [qL]; omega) | (simp only [qD] at *; omega))))
      refine CallV.of isCall_62 (ih _ hmem hgj (by omega) W _ b c _ hre hfr hbs1) ?_
      rintro _ W2 ⟨b2, cap2, rfl, hb2, k2⟩
      have hb' := hb.Kp k2
      have hboth := both_any (c := c') (d := cap2) hb' hb2 (by omega) (by omega)
      rw [hlen, hlen2] at hboth
      refine Sm.out ?_
      repeat (first | refine qS ?_ | refine qB ?_ | refine qT rfl ?_ | refine qF rfl ?_ | ((first | refine qR rfl ?_ | refine qK ?_ | refine qE ?_ | refine qW ?_ | refine qM ?_); try simp -dsimp (maxSteps := 2000000) (disch := first | omega | (simp only [qZ] <;> omega) | fail) only [push_cast, ↓qP, ↓reduceIte, seval, f1, f2, f3, f10, f7]) | (refine qA ?_ ?_; (first | omega | (simp only [qL]; omega) | (simp only [qD] at *; omega))))
      refine CallV.of isCall_78 hboth ?_
      rintro _ W3 ⟨rfl, hb3, k3⟩
      refine Sm.out ?_
      repeat (first | refine qS ?_ | refine qB ?_ | refine qT rfl ?_ | refine qF rfl ?_ | ((first | refine qR rfl ?_ | refine qK ?_ | refine qE ?_ | refine qW ?_ | refine qM ?_); try simp -dsimp (maxSteps := 2000000) (disch := first | omega | (simp only [qZ] <;> omega) | fail) only [push_cast, ↓qP, ↓reduceIte, seval, f1, f2, f3, f10, f7]) | (refine qA ?_ ?_; (first | omega | (simp only [qL]; omega) | (simp only [qD] at *; omega))))
      exact Again.mk (j + 1) ⟨by omega, by simp [upd, f1], by simp [upd, f2], by simp [upd, f3], by simp [upd], (k2.trans k3).Blk hp1 id, k1.trans (k2.trans k3), W2.heap.size, l.length + 1, by simp [upd], by rw [List.take_succ_eq_append_getElem hlt, endsAlt_snoc]; exact blk_bs hb3⟩ (by omega)
    · obtain rfl : j = kids.length := by omega
      have c1 : decide ((kids.length : Int) < (kids.length : Int)) = false := decide_eq_false (by omega)
      rw [List.take_length] at hb
      repeat (first | refine qS ?_ | refine qB ?_ | refine qT rfl ?_ | refine qF rfl ?_ | ((first | refine qR rfl ?_ | refine qK ?_ | refine qE ?_ | refine qW ?_ | refine qM ?_); try simp -dsimp (maxSteps := 2000000) (disch := first | omega | (simp only [qZ] <;> omega) | fail) only [push_cast, ↓qP, ↓reduceIte, seval, f1, f3, f10, hp1.rdc, c1]) | (refine qA ?_ ?_; (first | omega | (simp only [qL]; omega) | (simp only [qD] at *; omega))))
      exact Mid.mk ⟨b', c', by simp [upd, f7], hb, k1⟩
  rw [decide_eq_false c5] at e4
  rw [if_neg c5]
  by_cases c6 : op = opRep
  · rw [decide_eq_true c6] at e5
    rw [if_pos c6]
    obtain ⟨b1, b2, b3, b4, b5, b6⟩ := hgb.out c6
    repeat (first | refine qS ?_ | refine qB ?_ | refine qT rfl ?_ | refine qF rfl ?_ | ((first | refine qR rfl ?_ | refine qK ?_ | refine qE ?_ | refine qW ?_ | refine qM ?_); try simp -dsimp (maxSteps := 2000000) (disch := first | omega | (simp only [qZ] <;> omega) | fail) only [push_cast, ↓qP, ↓reduceIte, seval, hp1.rdc, e1, e2, e3, e6, e4, e5]) | (refine qA ?_ ?_; (first | omega | (simp only [qL]; omega) | (simp only [qD] at *; omega))))
    obtain ⟨k0, rfl⟩ : ∃ k0, kids = [k0] := by
      match kids, b6 with
      | [k0], _ => exact ⟨k0, rfl⟩
    obtain ⟨n0, rfl⟩ : ∃ n0 : Nat, lo = n0 := ⟨lo.toNat, by omega⟩
    have hn0 : ((n0 : Int)).toNat = n0 := by omega
    have hgk0 : Good k0 := by simp only [Goods] at hgk; exact hgk.1
    have hf := ends3_spec l k0 hgk0
    clear hgb hN
    refine Wp.loop (α := Nat) (fun j F W => j ≤ n0 ∧ F 1 = .string (B l) ∧ F 3 = .pointer (some ⟨p, 0, none⟩) ∧ F 12 = .int .i64 j ∧ Blk W p 33 [.string (B op), .string (B set), .slice A 1 cc, .int .i64 n0, .int .i64 hi] ∧ Kp (fun _ => False) w W ∧ ∃ b c, F 11 = .slice (some ⟨b, 0, none⟩) (l.length + 1) c ∧ Bs W b (iterE (ends3 l k0) j fr)) (fun j => n0 - j) 0
      ⟨Nat.zero_le _, by simp [upd, arg], by simp [upd, hp], by simp [upd], hp1, k1, b, c, by simp [upd, arg], hbs1⟩ ?_
    clear k1 hp1 hq1 hbs1 hltp hltq hltb
    rintro j F W ⟨hj, f1, f3, f12, hp1, k1, b, c, f11, hb⟩
    have hltp := hp1.lt
    have hget : [k0][0]? = some k0 := rfl
    obtain ⟨kb, o, d0, d1, A1, m1, d2, lo1, hi1, rfl, hbl, hD, q0, q1, q2, q3, q4, hre, _⟩ := h.kid k1 hget
    have hmem : k0 ∈ [k0] := by simp
    have hgj := hgk0
    have hwj := wts_mem hmem
    have hlen := (hf.iter j fr hfr).1
    simp only [Nat.zero_mul, Nat.add_zero] at q0 q1 q2 q3 q4
    rcases Nat.lt_or_ge j n0 with hlt | hge
    · have c1 : decide ((j : Int) < (n0 : Int)) = true := decide_eq_true (by omega)
      repeat (first | refine qS ?_ | refine qB ?_ | refine qT rfl ?_ | refine qF rfl ?_ | ((first | refine qR rfl ?_ | refine qK ?_ | refine qE ?_ | refine qW ?_ | refine qM ?_); try simp -dsimp (maxSteps := 2000000) (disch := first | omega | (simp only [qZ] <;> omega) | fail) only [push_cast, ↓qP, ↓reduceIte, seval, f1, f3, f12, f11, hp1.rdc, c1, q0, q1, q2, q3, q4]) | (refine qA ?_ ?_; (first | omega | (simp only [qL]; omega) | (simp only [qD] at *; omega))))
      refine CallV.of isCall_62 (ih _ hmem hgj (by omega) W _ b c _ hre hlen hb) ?_
      rintro _ W2 ⟨b2, cap2, rfl, hb2, k2⟩
      refine Sm.out ?_
      repeat (first | refine qS ?_ | refine qB ?_ | refine qT rfl ?_ | refine qF rfl ?_ | ((first | refine qR rfl ?_ | refine qK ?_ | refine qE ?_ | refine qW ?_ | refine qM ?_); try simp -dsimp (maxSteps := 2000000) (disch := first | omega | (simp only [qZ] <;> omega) | fail) only [push_cast, ↓qP, ↓reduceIte, seval, f1, f3, f12, f11]) | (refine qA ?_ ?_; (first | omega | (simp only [qL]; omega) | (simp only [qD] at *; omega))))
      exact Again.mk (j + 1) ⟨by omega, by simp [upd, f1], by simp [upd, f3], by simp [upd], k2.Blk hp1 id, k1.trans k2, b2, cap2, by simp [upd], by rw [iterE_succ]; exact hb2⟩ (by omega)
    obtain rfl : j = n0 := by omega
    have c1 : decide ((j : Int) < (j : Int)) = false := decide_eq_false (by omega)
    repeat (first | refine qS ?_ | refine qB ?_ | refine qT rfl ?_ | refine qF rfl ?_ | ((first | refine qR rfl ?_ | refine qK ?_ | refine qE ?_ | refine qW ?_ | refine qM ?_); try simp -dsimp (maxSteps := 2000000) (disch := first | omega | (simp only [qZ] <;> omega) | fail) only [push_cast, ↓qP, ↓reduceIte, seval, f1, f3, f12, f11, hp1.rdc, c1]) | (refine qA ?_ ?_; (first | omega | (simp only [qL]; omega) | (simp only [qD] at *; omega))))
    generalize hx0 : iterE (ends3 l k0) j fr = x0 at *
    have hres : endsRep l [k0] j hi fr = if hi < 0 then starE (ends3 l k0) (l.length + 2) x0 else boundE (ends3 l k0) (hi - j).toNat x0 x0 := by
      simp only [endsRep, hn0, hx0]
    by_cases hneg : hi < 0
    · obtain rfl : hi = -1 := by omega
      rw [if_pos hneg] at hres
      rw [hres]
      obtain ⟨R, hR⟩ : ∃ R, R = starE (ends3 l k0) (l.length + 2) x0 := ⟨_, rfl⟩
      rw [← hR]
      clear hres
      refine Wp.loop (α := Nat) (fun m F W => F 1 = .string (B l) ∧ F 3 = .pointer (some ⟨p, 0, none⟩) ∧ Blk W p 33 [.string (B op), .string (B set), .slice (some ⟨kb, o, none⟩) 1 cc, .int .i64 j, .int .i64 (-1)] ∧ Kp (fun _ => False) w W ∧ ∃ k : Nat, ∃ out b1 c1 b2 c2, F 13 = .int .i64 k ∧ k + m = j + (l.length + 2) ∧ F 11 = .slice (some ⟨b1, 0, none⟩) (l.length + 1) c1 ∧ F 7 = .slice (some ⟨b2, 0, none⟩) (l.length + 1) c2 ∧ Bs W b1 out ∧ Bs W b2 out ∧ out.length = l.length + 1 ∧ l.length + 1 < cnt out + m ∧ Hide (starE (ends3 l k0) m out = R)) (fun m => m) (l.length + 2)
        ⟨by simp [upd, f1], by simp [upd, f3], hp1, k1, j, x0, b, c, b, c, by simp [upd], rfl, by simp [upd, f11], by simp [upd, f11], hb, hb, hlen, by omega, ⟨hR.symm⟩⟩ ?_
      clear hp1 k1 hb f1 f3 f12 f11 hltp q0 q1 q2 q3 q4 hre
      rintro m F W ⟨f1, f3, hp1, k1, k, out, b1, c1, b2, c2, f13, hkm, f11, f7, hb1, hb2, hol, hcnt, hst⟩
      have hltp := hp1.lt
      obtain ⟨m, rfl⟩ : ∃ m', m = m' + 1 := ⟨m - 1, by have := cnt_le out; omega⟩
      obtain ⟨kb', o', d0, d1, A1, m1, d2, lo1, hi1, hA, hbl, hD', q0, q1, q2, q3, q4, hre, _⟩ := h.kid k1 hget
      injection hA with hA
      injection hA with hA1 hA2
      subst hA1; subst hA2
      simp only [Nat.zero_mul, Nat.add_zero] at q0 q1 q2 q3 q4
      have c1' : ((k : Int) != -1) = true := by simp <;> omega
      have hlen3 := ends3_len l _ hgk0 out hol
      repeat (first | refine qS ?_ | refine qB ?_ | refine qT rfl ?_ | refine qF rfl ?_ | ((first | refine qR rfl ?_ | refine qK ?_ | refine qE ?_ | refine qW ?_ | refine qM ?_); try simp -dsimp (maxSteps := 2000000) (disch := first | omega | (simp only [qZ] <;> omega) | fail) only [push_cast, ↓qP, ↓reduceIte, seval, f1, f3, f13, f11, hp1.rdc, c1', q0, q1, q2, q3, q4]) | (refine qA ?_ ?_; (first | omega | (simp only [qL]; omega) | (simp only [qD] at *; omega))))
      refine CallV.of isCall_62 (ih _ hmem hgj (by omega) W _ b1 c1 _ hre hol hb1) ?_
      rintro _ W2 ⟨b3, cap3, rfl, hb3, k2⟩
      have hboth := both_any (c := c2) (d := cap3) (hb2.Kp k2) hb3 (by omega) (by omega)
      rw [hol, hlen3] at hboth
      refine Sm.out ?_
      repeat (first | refine qS ?_ | refine qB ?_ | refine qT rfl ?_ | refine qF rfl ?_ | ((first | refine qR rfl ?_ | refine qK ?_ | refine qE ?_ | refine qW ?_ | refine qM ?_); try simp -dsimp (maxSteps := 2000000) (disch := first | omega | (simp only [qZ] <;> omega) | fail) only [push_cast, ↓qP, ↓reduceIte, seval, f1, f3, f13, f7]) | (refine qA ?_ ?_; (first | omega | (simp only [qL]; omega) | (simp only [qD] at *; omega))))
      refine CallV.of isCall_78 hboth ?_
      rintro _ W3 ⟨rfl, hb4, k3⟩
      have hlen4 : (orB out (ends3 l k0 out)).length = l.length + 1 := by rw [orB_len (by omega)]; exact hol
      have hp3 := (k2.trans k3).Blk hp1 id
      have hltp3 := hp3.lt
      have hsame := same_any (c := l.length + 1) (d := c2) (blk_bs hb4) (hb2.Kp (k2.trans k3)) (by omega) (by omega)
      rw [hlen4, hol] at hsame
      have c0 : decide ((-1 : Int) < 0) = true := rfl
      refine Sm.out ?_
      repeat (first | refine qS ?_ | refine qB ?_ | refine qT rfl ?_ | refine qF rfl ?_ | ((first | refine qR rfl ?_ | refine qK ?_ | refine qE ?_ | refine qW ?_ | refine qM ?_); try simp -dsimp (maxSteps := 2000000) (disch := first | omega | (simp only [qZ] <;> omega) | fail) only [push_cast, ↓qP, ↓reduceIte, seval, f1, f3, f13, f7, hp3.rdc, c0]) | (refine qA ?_ ?_; (first | omega | (simp only [qL]; omega) | (simp only [qD] at *; omega))))
      refine CallV.of isCall_79 hsame ?_
      rintro _ W4 ⟨rfl, k4⟩
      have hp4 := k4.Blk hp3 id
      have hltp4 := hp4.lt
      have hst1 := hst.out
      simp only [starE] at hst1
      by_cases hst2 : orB out (ends3 l k0 out) = out
      · rw [if_pos hst2] at hst1
        have c3 : decide (orB out (ends3 l k0 out) = out) = true := decide_eq_true hst2
        refine Sm.out ?_
        repeat (first | refine qS ?_ | refine qB ?_ | refine qT rfl ?_ | refine qF rfl ?_ | ((first | refine qR rfl ?_ | refine qK ?_ | refine qE ?_ | refine qW ?_ | refine qM ?_); try simp -dsimp (maxSteps := 2000000) (disch := first | omega | (simp only [qZ] <;> omega) | fail) only [push_cast, ↓qP, ↓reduceIte, seval, f1, f3, f13, f7, hp4.rdc, c3, c0]) | (refine qA ?_ ?_; (first | omega | (simp only [qL]; omega) | (simp only [qD] at *; omega))))
        exact Mid.mk ⟨b2, c2, by simp [upd, f7], by rw [← hst1]; exact hb2.Kp (k2.trans (k3.trans k4)), k1.trans (k2.trans (k3.trans k4))⟩
      · rw [if_neg hst2] at hst1
        have c3 : decide (orB out (ends3 l k0 out) = out) = false := decide_eq_false hst2
        have hcnt2 := cnt_lt (a := out) (b := orB out (ends3 l k0 out)) (by rw [orB_len (by omega)]) (fun j hj => (In_orB (by omega) j).2 (.inl hj)) (Ne.symm hst2)
        have hb5 := (blk_bs hb4).Kp k4
        refine Sm.out ?_
        repeat (first | refine qS ?_ | refine qB ?_ | refine qT rfl ?_ | refine qF rfl ?_ | ((first | refine qR rfl ?_ | refine qK ?_ | refine qE ?_ | refine qW ?_ | refine qM ?_); try simp -dsimp (maxSteps := 2000000) (disch := first | omega | (simp only [qZ] <;> omega) | fail) only [push_cast, ↓qP, ↓reduceIte, seval, f1, f3, f13, f7, hp4.rdc, c3, c0]) | (refine qA ?_ ?_; (first | omega | (simp only [qL]; omega) | (simp only [qD] at *; omega))))
        exact Again.mk m ⟨by simp [upd, f1], by simp [upd, f3], hp4, k1.trans (k2.trans (k3.trans k4)), k + 1, _, W2.heap.size, l.length + 1, W2.heap.size, l.length + 1, by simp [upd], by omega, by simp [upd], by simp [upd], hb5, hb5, hlen4, by omega, ⟨hst1⟩⟩ (by omega)
    · rw [if_neg hneg] at hres
      rw [hres]
      obtain ⟨R, hR⟩ : ∃ R, R = boundE (ends3 l k0) (hi - j).toNat x0 x0 := ⟨_, rfl⟩
      rw [← hR]
      clear hres
      have hhi : (j : Int) ≤ hi := by omega
      refine Wp.loop (α := Nat) (fun m F W => F 1 = .string (B l) ∧ F 3 = .pointer (some ⟨p, 0, none⟩) ∧ Blk W p 33 [.string (B op), .string (B set), .slice (some ⟨kb, o, none⟩) 1 cc, .int .i64 j, .int .i64 hi] ∧ Kp (fun _ => False) w W ∧ ∃ ab out b1 c1 b2 c2, F 13 = .int .i64 (hi - (m : Int)) ∧ m ≤ (hi - j).toNat ∧ F 11 = .slice (some ⟨b1, 0, none⟩) (l.length + 1) c1 ∧ F 7 = .slice (some ⟨b2, 0, none⟩) (l.length + 1) c2 ∧ Bs W b1 ab ∧ Bs W b2 out ∧ ab.length = l.length + 1 ∧ out.length = l.length + 1 ∧ Hide (boundE (ends3 l k0) m ab out = R)) (fun m => m) (hi - j).toNat
        ⟨by simp [upd, f1], by simp [upd, f3], hp1, k1, x0, x0, b, c, b, c, by simp [upd]; omega, Nat.le_refl _, by simp [upd, f11], by simp [upd, f11], hb, hb, hlen, hlen, ⟨hR.symm⟩⟩ ?_
      clear hp1 k1 hb f1 f3 f12 f11 hltp q0 q1 q2 q3 q4 hre
      rintro m F W ⟨f1, f3, hp1, k1, ab, out, b1, c1, b2, c2, f13, hkm, f11, f7, hb1, hb2, hal, hol, hst⟩
      have hltp := hp1.lt
      rcases Nat.eq_zero_or_pos m with hm | hm
      · subst hm
        have hst1 := hst.out
        simp only [boundE] at hst1
        have c1' : ((hi - 0) != hi) = false := by simp
        repeat (first | refine qS ?_ | refine qB ?_ | refine qT rfl ?_ | refine qF rfl ?_ | ((first | refine qR rfl ?_ | refine qK ?_ | refine qE ?_ | refine qW ?_ | refine qM ?_); try simp -dsimp (maxSteps := 2000000) (disch := first | omega | (simp only [qZ] <;> omega) | fail) only [push_cast, ↓qP, ↓reduceIte, seval, f1, f3, f13, hp1.rdc, c1']) | (refine qA ?_ ?_; (first | omega | (simp only [qL]; omega) | (simp only [qD] at *; omega))))
        exact Mid.mk ⟨b2, c2, by simp [upd, f7], by rw [← hst1]; exact hb2, k1⟩
      obtain ⟨m, rfl⟩ : ∃ m', m = m' + 1 := ⟨m - 1, by omega⟩
      obtain ⟨kb', o', d0, d1, A1, m1, d2, lo1, hi1, hA, hbl, hD', q0, q1, q2, q3, q4, hre, _⟩ := h.kid k1 hget
      injection hA with hA
      injection hA with hA1 hA2
      subst hA1; subst hA2
      simp only [Nat.zero_mul, Nat.add_zero] at q0 q1 q2 q3 q4
      generalize hkk : hi - ((m + 1 : Nat) : Int) = kk at *
      have c1' : (kk != hi) = true := by simp; omega
      have c2' : decide (hi < 0) = false := decide_eq_false hneg
      have hlen3 := ends3_len l _ hgk0 ab hal
      repeat (first | refine qS ?_ | refine qB ?_ | refine qT rfl ?_ | refine qF rfl ?_ | ((first | refine qR rfl ?_ | refine qK ?_ | refine qE ?_ | refine qW ?_ | refine qM ?_); try simp -dsimp (maxSteps := 2000000) (disch := first | omega | (simp only [qZ] <;> omega) | fail) only [push_cast, ↓qP, ↓reduceIte, seval, f1, f3, f13, f11, hp1.rdc, c1', q0, q1, q2, q3, q4]) | (refine qA ?_ ?_; (first | omega | (simp only [qL]; omega) | (simp only [qD] at *; omega))))
      refine CallV.of isCall_62 (ih _ hmem hgj (by omega) W _ b1 c1 _ hre hal hb1) ?_
      rintro _ W2 ⟨b3, cap3, rfl, hb3, k2⟩
      have hboth := both_any (c := c2) (d := cap3) (hb2.Kp k2) hb3 (by omega) (by omega)
      rw [hol, hlen3] at hboth
      refine Sm.out ?_
      repeat (first | refine qS ?_ | refine qB ?_ | refine qT rfl ?_ | refine qF rfl ?_ | ((first | refine qR rfl ?_ | refine qK ?_ | refine qE ?_ | refine qW ?_ | refine qM ?_); try simp -dsimp (maxSteps := 2000000) (disch := first | omega | (simp only [qZ] <;> omega) | fail) only [push_cast, ↓qP, ↓reduceIte, seval, f1, f3, f13, f7]) | (refine qA ?_ ?_; (first | omega | (simp only [qL]; omega) | (simp only [qD] at *; omega))))
      refine CallV.of isCall_78 hboth ?_
      rintro _ W3 ⟨rfl, hb4, k3⟩
      have hlen4 : (orB out (ends3 l k0 ab)).length = l.length + 1 := by rw [orB_len (by omega)]; exact hol
      have hp3 := (k2.trans k3).Blk hp1 id
      have hltp3 := hp3.lt
      have hst1 := hst.out
      simp only [boundE] at hst1
      refine Sm.out ?_
      repeat (first | refine qS ?_ | refine qB ?_ | refine qT rfl ?_ | refine qF rfl ?_ | ((first | refine qR rfl ?_ | refine qK ?_ | refine qE ?_ | refine qW ?_ | refine qM ?_); try simp -dsimp (maxSteps := 2000000) (disch := first | omega | (simp only [qZ] <;> omega) | fail) only [push_cast, ↓qP, ↓reduceIte, seval, f1, f3, f13, f7, hp3.rdc, c2']) | (refine qA ?_ ?_; (first | omega | (simp only [qL]; omega) | (simp only [qD] at *; omega))))
      exact Again.mk m ⟨by simp [upd, f1], by simp [upd, f3], hp3, k1.trans (k2.trans k3), _, _, b3, cap3, W2.heap.size, l.length + 1, by simp [upd]; omega, by omega, by simp [upd], by simp [upd], hb3.Kp k3, blk_bs hb4, hlen3, hlen4, ⟨hst1⟩⟩ (by omega)
  exfalso
  simp only [Good] at hg
  rcases hg with ⟨h, _⟩ | ⟨h, _⟩ | ⟨h, _⟩ | ⟨h, _⟩ | ⟨h, _⟩ | ⟨h, _⟩ <;> contradiction
end
end Go.Proofs.Ytddichibegppjaa

/- The reference's matcher: Find, Whole. -/
namespace Go.Proofs.Ytddichibegppjaa
open Go Go.VC

/-- The last place of a set below one, from another on. -/
def scan (x : List Bool) (i : Nat) : Nat → Option Nat
  | 0 => none
  | k + 1 => if k < i then none else if x.getD k false = true then some k else scan x i k
def find3 (e : Re) (l : List UInt8) : Nat → Nat → Option (Nat × Nat)
  | 0, _ => none
  | f + 1, i => match scan (ends3 l e ((noP l).set i true)) i (l.length + 1) with
    | some j => some (i, j - i)
    | none => find3 e l f (i + 1)
def trip (r : Option (Nat × Nat)) : Value := match r with | some (i, n) => .tuple #[.int .i64 (i : Int), .int .i64 (n : Int), .bool true] | none => .tuple #[.int .i64 0, .int .i64 0, .bool false]
def findI (e : Re) (l : List UInt8) (i : Int) : Option (Nat × Nat) := if i < 0 then none else find3 e l (l.length + 1 - i.toNat) i.toNat

section
variable {D : Nat → Prop} {l : List UInt8} {e : Re} {w : World} {cs : List Value}

theorem find3_any (hl : l.length ≤ 1000000) (hg : Good e) (hwt : wt e ≤ 1000000000) (h : IsRe w D e cs) (i : Int) (hi : -9223372036854775808 ≤ i ∧ i ≤ 9223372036854775807) :
    Calls Try.prog 29 #[.agg cs.toArray, .string (B l), .int .i64 i] w fun e' w' => e' = .returned (trip (findI e l i)) ∧ Kp (fun _ => False) w w' := by
  obtain ⟨o, se, A, m, c, lo, hi', rfl⟩ := h.form
  refine enter (n := 48) (args := [.agg #[.string (B o), .string (B se), .slice A m c, .int .i64 lo, .int .i64 hi'], .string (B l), .int .i64 i]) Try.func29 rfl rfl rfl (by simp) ?_
  rcases Bool.eq_false_or_eq_true (decide (i < 0)) with c0 | c0
  · have : findI e l i = none := by unfold findI; rw [if_pos (by simpa using c0)]
    rw [this]
    repeat (first | refine qS ?_ | refine qB ?_ | refine qT rfl ?_ | refine qF rfl ?_ | ((first | refine qR rfl ?_ | refine qK ?_ | refine qE ?_ | refine qW ?_ | refine qM ?_); try simp -dsimp (maxSteps := 2000000) (disch := first | omega | (simp only [qZ] <;> omega) | fail) only [push_cast, ↓qP, ↓reduceIte, seval, c0]) | (refine qA ?_ ?_; (first | omega | (simp only [qL]; omega) | (simp only [qD] at *; omega))))
    exact Ret.mk ⟨rfl, (Kp.refl _ w).alloc _⟩
  obtain ⟨n, rfl⟩ : ∃ n : Nat, i = n := ⟨i.toNat, by simp at c0; omega⟩
  have hfi : findI e l n = find3 e l (l.length + 1 - n) n := by unfold findI; rw [if_neg (by omega), Int.toNat_natCast]
  rw [hfi]
  obtain ⟨R, hR⟩ : ∃ R, find3 e l (l.length + 1 - n) n = R := ⟨_, rfl⟩
  rw [hR]
  obtain ⟨p, hp⟩ : ∃ p, p = w.heap.size := ⟨_, rfl⟩
  repeat (first | refine qS ?_ | refine qB ?_ | refine qT rfl ?_ | refine qF rfl ?_ | ((first | refine qR rfl ?_ | refine qK ?_ | refine qE ?_ | refine qW ?_ | refine qM ?_); try simp -dsimp (maxSteps := 2000000) (disch := first | omega | (simp only [qZ] <;> omega) | fail) only [push_cast, ↓qP, ↓reduceIte, seval, c0]) | (refine qA ?_ ?_; (first | omega | (simp only [qL]; omega) | (simp only [qD] at *; omega))))
  refine Wp.loop (α := Nat) (fun f F W => ∃ i : Nat, F 1 = .string (B l) ∧ F 3 = .pointer (some ⟨p, 0, none⟩) ∧ F 9 = .int .i64 i ∧ f = l.length + 1 - i ∧ Kp (fun _ => False) w W ∧ Blk W p 33 [.string (B o), .string (B se), .slice A m c, .int .i64 lo, .int .i64 hi'] ∧ Hide (find3 e l f i = R)) (fun f => f) (l.length + 1 - n)
    ⟨n, by simp [upd, arg], by simp [upd, hp], by simp [upd, arg], rfl, (Kp.refl _ w).alloc _, by rw [hp]; exact Blk.new w 33 [.string (B o), .string (B se), .slice A m c, .int .i64 lo, .int .i64 hi'], ⟨hR⟩⟩ ?_
  clear c0 hfi hR hi
  rintro f F W ⟨i, f1, f3, f9, hf, k1, hp1, hst⟩
  rcases Nat.lt_or_ge l.length i with hgt | hle
  · have c1 : decide ((i : Int) ≤ (l.length : Int)) = false := decide_eq_false (by omega)
    obtain rfl : f = 0 := by omega
    have hst1 := hst.out
    simp only [find3] at hst1
    repeat (first | refine qS ?_ | refine qB ?_ | refine qT rfl ?_ | refine qF rfl ?_ | ((first | refine qR rfl ?_ | refine qK ?_ | refine qE ?_ | refine qW ?_ | refine qM ?_); try simp -dsimp (maxSteps := 2000000) (disch := first | omega | (simp only [qZ] <;> omega) | fail) only [push_cast, ↓qP, ↓reduceIte, seval, f1, f3, f9, c1]) | (refine qA ?_ ?_; (first | omega | (simp only [qL]; omega) | (simp only [qD] at *; omega))))
    exact Ret.mk ⟨by rw [← hst1]; rfl, k1⟩
  have c1 : decide ((i : Int) ≤ (l.length : Int)) = true := decide_eq_true (by omega)
  obtain ⟨f, rfl⟩ : ∃ f', f = f' + 1 := ⟨f - 1, by omega⟩
  have hst1 := hst.out
  simp only [find3] at hst1
  have hltp := hp1.lt
  have hset0 := Blk.new W 4 (zeros [.bool false] (l.length + 1))
  have hz : zeros [.bool false] (l.length + 1) = bools (noP l) := by simp [zeros_one, bools, noP]
  rw [hz] at hset0
  have hNl : (noP l).length = l.length + 1 := by simp [noP]
  have hcell : (zeros [.bool false] (l.length + 1))[i]? = some (.bool ((noP l).getD i false)) := by rw [hz]; exact bools_get _ _ (by omega)
  have hln : ((l.length : Int) + 1).toNat = l.length + 1 := by omega
  refine Sm.out ?_
  repeat (first | ((fail_if_success (first | refine qY (n := 8) ?_ | refine qV (n := 8) ?_)); refine qS ?_) | refine qB ?_ | refine qT rfl ?_ | refine qF rfl ?_ | ((first | refine qR rfl ?_ | refine qK ?_ | refine qE ?_ | refine qW ?_ | refine qM ?_); try simp -dsimp (maxSteps := 2000000) (disch := first | omega | (simp only [qZ] <;> omega) | fail) only [push_cast, ↓qP, ↓reduceIte, seval, f1, f3, f9, c1, hln, hcell]) | (refine qA ?_ ?_; (first | omega | (simp only [qL]; omega) | (simp only [qD] at *; omega))))
  refine Wp.gen (A := fun W2 => Kp (fun _ => False) W W2 ∧ Blk W2 W.heap.size 4 (bools ((noP l).set i true))) ⟨((Kp.refl _ W).alloc _).setCell (p := ⟨W.heap.size, i, none⟩) (fun h => absurd h (Nat.lt_irrefl _)) _, ?_⟩ ?_
  · have := hset0.set i (.bool true)
    rw [bools_set, ← hz] at this
    exact this
  rintro W2 ⟨k2, hq2⟩
  have hp2 := k2.Blk hp1 id
  have hltp2 := hp2.lt
  have hre2 := h.Kp (D' := D) (k1.trans k2) (fun _ _ => id) (fun _ h => h)
  have hNs : ((noP l).set i true).length = l.length + 1 := by simp [noP]
  repeat (first | refine qS ?_ | refine qB ?_ | refine qT rfl ?_ | refine qF rfl ?_ | ((first | refine qR rfl ?_ | refine qK ?_ | refine qE ?_ | refine qW ?_ | refine qM ?_); try simp -dsimp (maxSteps := 2000000) (disch := first | omega | (simp only [qZ] <;> omega) | fail) only [push_cast, ↓qP, ↓reduceIte, seval, f1, f3, f9, hp2.rdc]) | (refine qA ?_ ?_; (first | omega | (simp only [qL]; omega) | (simp only [qD] at *; omega))))
  refine CallV.of isCall_62 (ends3_any hl e hg hwt W2 _ W.heap.size (l.length + 1) _ hre2 hNs (blk_bs hq2)) ?_
  rintro _ W3 ⟨b, c2, rfl, hb, k3⟩
  have hlen := ends3_len l e hg _ hNs
  generalize ends3 l e ((noP l).set i true) = x at *
  clear hcell hset0 hz hq2 hp2 hre2 hltp hltp2
  refine Sm.out ?_
  repeat (first | refine qS ?_ | refine qB ?_ | refine qT rfl ?_ | refine qF rfl ?_ | ((first | refine qR rfl ?_ | refine qK ?_ | refine qE ?_ | refine qW ?_ | refine qM ?_); try simp -dsimp (maxSteps := 2000000) (disch := first | omega | (simp only [qZ] <;> omega) | fail) only [push_cast, ↓qP, ↓reduceIte, seval, f1, f3, f9]) | (refine qA ?_ ?_; (first | omega | (simp only [qL]; omega) | (simp only [qD] at *; omega))))
  obtain ⟨S, hS⟩ : ∃ S, scan x i (l.length + 1) = S := ⟨_, rfl⟩
  rw [hS] at hst1
  refine Wp.loop (α := Nat) (fun k F W4 => F 1 = .string (B l) ∧ F 3 = .pointer (some ⟨p, 0, none⟩) ∧ F 9 = .int .i64 i ∧ F 11 = .slice (some ⟨b, 0, none⟩) (l.length + 1) c2 ∧ F 12 = .int .i64 ((k : Int) - 1) ∧ k ≤ l.length + 1 ∧ W3 = W4 ∧ Hide (scan x i k = S)) (fun k => k) (l.length + 1)
    ⟨by simp [upd, f1], by simp [upd, f3], by simp [upd, f9], by simp [upd], by simp [upd], Nat.le_refl _, rfl, ⟨hS⟩⟩ ?_
  have hp3 := (k2.trans k3).Blk hp1 id
  have hbl := hb.1
  clear f1 f3 f9
  rintro k F _ ⟨f1, f3, f9, f11, f12, hk, rfl, hsc⟩
  rcases Nat.lt_or_ge i k with hik | hik
  · obtain ⟨k, rfl⟩ : ∃ k', k = k' + 1 := ⟨k - 1, by omega⟩
    have hkk : (((k + 1 : Nat) : Int) - 1) = k := by omega
    rw [hkk] at f12
    have c3 : decide ((k : Int) ≥ (i : Int)) = true := decide_eq_true (by omega)
    have r1 := hb.2 k (by omega)
    have hsc1 := hsc.out
    simp only [scan] at hsc1
    rw [if_neg (by omega)] at hsc1
    rcases Bool.eq_false_or_eq_true (x.getD k false) with c4 | c4
    · rw [c4] at r1 hsc1
      rw [if_pos rfl] at hsc1
      rw [← hsc1] at hst1
      repeat (first | refine qS ?_ | refine qB ?_ | refine qT rfl ?_ | refine qF rfl ?_ | ((first | refine qR rfl ?_ | refine qK ?_ | refine qE ?_ | refine qW ?_ | refine qM ?_); try simp -dsimp (maxSteps := 2000000) (disch := first | omega | (simp only [qZ] <;> omega) | fail) only [push_cast, ↓qP, ↓reduceIte, seval, f1, f3, f9, f11, f12, c3, r1]) | (refine qA ?_ ?_; (first | omega | (simp only [qL]; omega) | (simp only [qD] at *; omega))))
      refine Ret.mk ⟨?_, k1.trans (k2.trans k3)⟩
      rw [← hst1]
      simp only [trip]
      rw [show ((k - i : Nat) : Int) = (k : Int) - i by omega]
    · rw [c4] at r1 hsc1
      rw [if_neg (by simp)] at hsc1
      repeat (first | refine qS ?_ | refine qB ?_ | refine qT rfl ?_ | refine qF rfl ?_ | ((first | refine qR rfl ?_ | refine qK ?_ | refine qE ?_ | refine qW ?_ | refine qM ?_); try simp -dsimp (maxSteps := 2000000) (disch := first | omega | (simp only [qZ] <;> omega) | fail) only [push_cast, ↓qP, ↓reduceIte, seval, f1, f3, f9, f11, f12, c3, r1]) | (refine qA ?_ ?_; (first | omega | (simp only [qL]; omega) | (simp only [qD] at *; omega))))
      exact Again.mk k ⟨by simp [upd, f1], by simp [upd, f3], by simp [upd, f9], by simp [upd, f11], by simp [upd], by omega, rfl, ⟨hsc1⟩⟩ (by omega)
  · have c3 : decide ((k : Int) - 1 ≥ (i : Int)) = false := decide_eq_false (by omega)
    have hsc1 : scan x i k = none := by
      cases k with
      | zero => rfl
      | succ k => simp only [scan]; rw [if_pos (by omega)]
    rw [hsc.out] at hsc1
    rw [hsc1] at hst1
    repeat (first | refine qS ?_ | refine qB ?_ | refine qT rfl ?_ | refine qF rfl ?_ | ((first | refine qR rfl ?_ | refine qK ?_ | refine qE ?_ | refine qW ?_ | refine qM ?_); try simp -dsimp (maxSteps := 2000000) (disch := first | omega | (simp only [qZ] <;> omega) | fail) only [push_cast, ↓qP, ↓reduceIte, seval, f1, f3, f9, f11, f12, c3]) | (refine qA ?_ ?_; (first | omega | (simp only [qL]; omega) | (simp only [qD] at *; omega))))
    exact Again.mk f ⟨i + 1, by simp [upd, f1], by simp [upd, f3], by simp [upd], by omega, k1.trans (k2.trans k3), hp3, ⟨hst1⟩⟩ (by omega)

def whole3 (e : Re) (l : List UInt8) : Bool := (ends3 l e ((noP l).set 0 true)).getD l.length false

theorem whole3_any (hl : l.length ≤ 1000000) (hg : Good e) (hwt : wt e ≤ 1000000000) (h : IsRe w D e cs) :
    Calls Try.prog 31 #[.agg cs.toArray, .string (B l)] w fun e' w' => e' = .returned (.bool (whole3 e l)) ∧ Kp (fun _ => False) w w' := by
  obtain ⟨o, se, A, m, c, lo, hi', rfl⟩ := h.form
  refine enter (n := 20) (args := [.agg #[.string (B o), .string (B se), .slice A m c, .int .i64 lo, .int .i64 hi'], .string (B l)]) Try.func31 rfl rfl rfl (by simp) ?_
  have hz : zeros [.bool false] (l.length + 1) = bools (noP l) := by simp [zeros_one, bools, noP]
  have hNl : (noP l).length = l.length + 1 := by simp [noP]
  have hset0 := Blk.new (w.alloc (.cells (List.toArray [.string (B o), .string (B se), .slice A m c, .int .i64 lo, .int .i64 hi']) 33)) 4 (zeros [.bool false] (l.length + 1))
  have hcell : (zeros [.bool false] (l.length + 1))[0]? = some (.bool ((noP l).getD 0 false)) := by rw [hz]; exact bools_get _ _ (by omega)
  have hln : ((l.length : Int) + 1).toNat = l.length + 1 := by omega
  refine Sm.out ?_
  repeat (first | ((fail_if_success (first | refine qY (n := 3) ?_ | refine qV (n := 3) ?_)); refine qS ?_) | refine qB ?_ | refine qT rfl ?_ | refine qF rfl ?_ | ((first | refine qR rfl ?_ | refine qK ?_ | refine qE ?_ | refine qW ?_ | refine qM ?_); try simp -dsimp (maxSteps := 2000000) (disch := first | omega | (simp only [qZ] <;> omega) | fail) only [push_cast, ↓qP, ↓reduceIte, seval, hcell, hln]) | (refine qA ?_ ?_; (first | omega | (simp only [qL]; omega) | (simp only [qD] at *; omega))))
  refine Wp.gen (A := fun W2 => Kp (fun _ => False) w W2 ∧ Blk W2 w.heap.size 33 [.string (B o), .string (B se), .slice A m c, .int .i64 lo, .int .i64 hi'] ∧ Blk W2 (w.heap.size + 1) 4 (bools ((noP l).set 0 true))) ⟨(((Kp.refl _ w).alloc _).alloc _).setCell (p := ⟨w.heap.size + 1, 0, none⟩) (fun h => absurd h (Nat.not_lt.2 (Nat.le_succ _))) _, ((Blk.new w 33 [.string (B o), .string (B se), .slice A m c, .int .i64 lo, .int .i64 hi']).alloc _).far (p := ⟨w.heap.size + 1, 0, none⟩) (Nat.ne_of_lt (Nat.lt_succ_self _)) _, ?_⟩ ?_
  · rw [World.size_alloc, hz] at hset0
    have := hset0.set 0 (.bool true)
    rw [bools_set, ← hz] at this
    exact this
  rintro W2 ⟨k2, hp2, hq2⟩
  have hltp2 := hp2.lt
  have hre2 := h.Kp (D' := D) k2 (fun _ _ => id) (fun _ h => h)
  have hNs : ((noP l).set 0 true).length = l.length + 1 := by simp [noP]
  repeat (first | refine qS ?_ | refine qB ?_ | refine qT rfl ?_ | refine qF rfl ?_ | ((first | refine qR rfl ?_ | refine qK ?_ | refine qE ?_ | refine qW ?_ | refine qM ?_); try simp -dsimp (maxSteps := 2000000) (disch := first | omega | (simp only [qZ] <;> omega) | fail) only [push_cast, ↓qP, ↓reduceIte, seval, hp2.rdc]) | (refine qA ?_ ?_; (first | omega | (simp only [qL]; omega) | (simp only [qD] at *; omega))))
  refine CallV.of isCall_62 (ends3_any hl e hg hwt W2 _ (w.heap.size + 1) (l.length + 1) _ hre2 hNs (blk_bs hq2)) ?_
  rintro _ W3 ⟨b, c2, rfl, hb, k3⟩
  have hlen := ends3_len l e hg _ hNs
  have r1 := hb.2 l.length (by omega)
  refine Sm.out ?_
  repeat (first | refine qS ?_ | refine qB ?_ | refine qT rfl ?_ | refine qF rfl ?_ | ((first | refine qR rfl ?_ | refine qK ?_ | refine qE ?_ | refine qW ?_ | refine qM ?_); try simp -dsimp (maxSteps := 2000000) (disch := first | omega | (simp only [qZ] <;> omega) | fail) only [push_cast, ↓qP, ↓reduceIte, seval, r1]) | (refine qA ?_ ?_; (first | omega | (simp only [qL]; omega) | (simp only [qD] at *; omega))))
  exact Ret.mk ⟨rfl, k2.trans k3⟩
end
end Go.Proofs.Ytddichibegppjaa

/- The machine's maker: right. -/
namespace Go.Proofs.Ytddichibegppjaa
open Go Go.VC

theorem sizes3_append (b : List Re) : ∀ (a : List Re) (n : Int), sizes3 (a ++ b) n = sizes3 b (sizes3 a n)
  | [], n => rfl
  | k :: a, n => by simp only [List.cons_append, sizes3]; exact sizes3_append b a _
theorem sizes3_ge {ks : List Re} (hk : ∀ k ∈ ks, 0 ≤ size3 k) : ∀ n, n ≤ 2001 → n ≤ sizes3 ks n := by
  induction ks with
  | nil => intro n h; simp only [sizes3]; omega
  | cons k ks ih =>
    intro n h
    have h1 := hk k (by simp)
    have h2 := ih (fun k h => hk k (by simp [h])) (min (n + size3 k) 2001) (by omega)
    simp only [sizes3]
    omega
theorem Good.kid_size {op set : List UInt8} {kids : List Re} {lo hi : Int} (h : Good (.node op set kids lo hi)) : ∀ k ∈ kids, 0 ≤ size3 k := fun k hk => (size3_bound k (Goods_mem h.kids hk)).1
theorem sizes3_fit {op set : List UInt8} {kids : List Re} {lo hi : Int} (h : Good (.node op set kids lo hi)) (hs : size3 (.node op set kids lo hi) ≤ 2000) : 0 ≤ sizes3 kids 0 ∧ sizes3 kids 0 ≤ 2000 := by
  have hb := sizes3_bound (ks := kids) (fun k hk => size3_bound k (Goods_mem h.kids hk)) 0 (by omega) (by omega)
  refine ⟨hb.1, ?_⟩
  obtain ⟨n1, n2, n3, n4, n5, n6, n7, n8, n9, n10, n11, n12, n13, n14, n15⟩ := op_ne
  have hg := h
  simp only [Good] at h
  rcases h with ⟨_, h, _⟩ | ⟨_, h⟩ | ⟨_, h⟩ | ⟨rfl, h⟩ | ⟨rfl, h⟩ | ⟨rfl, h⟩
  · subst h; simp [sizes3]
  · subst h; simp [sizes3]
  · subst h; simp [sizes3]
  · simp only [size3, Ne.symm n3, Ne.symm n7, Ne.symm n10, n13, n14, if_false] at hs
    omega
  · simp only [size3, Ne.symm n4, Ne.symm n8, Ne.symm n11, if_false, if_true] at hs
    omega
  · obtain ⟨b1, b2, b3, b4, b5, b6⟩ := hg.bounds rfl
    simp only [size3, Ne.symm n5, Ne.symm n9, Ne.symm n12, Ne.symm n15, if_false, if_true] at hs
    have : sizes3 kids 0 ≤ sizes3 kids 0 * (if hi < 0 then lo + 1 else max 1 hi) := by
      have h1 : (1 : Int) ≤ (if hi < 0 then lo + 1 else max 1 hi) := by split <;> omega
      have := Int.mul_le_mul_of_nonneg_left h1 hb.1
      omega
    omega
/-- Up to a kid, where all is small. -/
theorem sizes3_kid {op set : List UInt8} {kids : List Re} {lo hi : Int} (h : Good (.node op set kids lo hi)) (hs : size3 (.node op set kids lo hi) ≤ 2000) {j : Nat} (hj : j < kids.length) :
    0 ≤ sizes3 (kids.take j) 0 ∧ sizes3 (kids.take (j + 1)) 0 = sizes3 (kids.take j) 0 + size3 kids[j] ∧ sizes3 (kids.take (j + 1)) 0 ≤ 2000 ∧ 0 ≤ size3 kids[j] ∧ size3 kids[j] ≤ 2000 := by
  have hf := sizes3_fit h hs
  have hk := h.kid_size
  have h1 : sizes3 (kids.take (j + 1)) 0 ≤ sizes3 kids 0 := by
    have e : kids = kids.take (j + 1) ++ kids.drop (j + 1) := (List.take_append_drop _ _).symm
    have hb := sizes3_bound (ks := kids.take (j + 1)) (fun k hk => size3_bound k (Goods_mem h.kids (List.mem_of_mem_take hk))) 0 (by omega) (by omega)
    conv => rhs; rw [e, sizes3_append]
    exact sizes3_ge (fun k hk' => hk k (List.mem_of_mem_drop hk')) _ hb.2
  have hb := sizes3_bound (ks := kids.take j) (fun k hk => size3_bound k (Goods_mem h.kids (List.mem_of_mem_take hk))) 0 (by omega) (by omega)
  have h2 : sizes3 (kids.take (j + 1)) 0 = min (sizes3 (kids.take j) 0 + size3 kids[j]) 2001 := by rw [List.take_succ_eq_append_getElem hj, sizes3_snoc]
  have h3 := hk kids[j] (List.getElem_mem hj)
  omega

theorem ops_set : (opSet == [115, 101, 116]) = true ∧ (opSet == [98, 111, 108]) = false ∧ (opSet == [101, 111, 108]) = false ∧ (opSet == [97, 108, 116]) = false ∧ (opSet == [114, 101, 112]) = false ∧ (opSet == [99, 97, 116]) = false := by decide
theorem ops_bol : (opBol == [115, 101, 116]) = false ∧ (opBol == [98, 111, 108]) = true ∧ (opBol == [101, 111, 108]) = false ∧ (opBol == [97, 108, 116]) = false ∧ (opBol == [114, 101, 112]) = false ∧ (opBol == [99, 97, 116]) = false := by decide
theorem ops_eol : (opEol == [115, 101, 116]) = false ∧ (opEol == [98, 111, 108]) = false ∧ (opEol == [101, 111, 108]) = true ∧ (opEol == [97, 108, 116]) = false ∧ (opEol == [114, 101, 112]) = false ∧ (opEol == [99, 97, 116]) = false := by decide
theorem ops_alt : (opAlt == [115, 101, 116]) = false ∧ (opAlt == [98, 111, 108]) = false ∧ (opAlt == [101, 111, 108]) = false ∧ (opAlt == [97, 108, 116]) = true ∧ (opAlt == [114, 101, 112]) = false ∧ (opAlt == [99, 97, 116]) = false := by decide
theorem ops_rep : (opRep == [115, 101, 116]) = false ∧ (opRep == [98, 111, 108]) = false ∧ (opRep == [101, 111, 108]) = false ∧ (opRep == [97, 108, 116]) = false ∧ (opRep == [114, 101, 112]) = true ∧ (opRep == [99, 97, 116]) = false := by decide
theorem ops_cat : (opCat == [115, 101, 116]) = false ∧ (opCat == [98, 111, 108]) = false ∧ (opCat == [101, 111, 108]) = false ∧ (opCat == [97, 108, 116]) = false ∧ (opCat == [114, 101, 112]) = false ∧ (opCat == [99, 97, 116]) = true := by decide
theorem lf_set : (decide (opSet = opSet) || decide (opSet = opBol) || decide (opSet = opEol)) = true := by decide
theorem lf_bol : (decide (opBol = opSet) || decide (opBol = opBol) || decide (opBol = opEol)) = true := by decide
theorem lf_eol : (decide (opEol = opSet) || decide (opEol = opBol) || decide (opEol = opEol)) = true := by decide
theorem lf_cat : (decide (opCat = opSet) || decide (opCat = opBol) || decide (opCat = opEol)) = false := by decide
theorem lf_alt : (decide (opAlt = opSet) || decide (opAlt = opBol) || decide (opAlt = opEol)) = false := by decide
theorem lf_rep : (decide (opRep = opSet) || decide (opRep = opBol) || decide (opRep = opEol)) = false := by decide

section
variable {w : World} {D : Nat → Prop}

theorem right_any : ∀ e : Re, Good e → size3 e ≤ 2000 → ∀ (w : World) (cs : List Value) (deep : Nat), deep + wt e ≤ 2001 → IsRe w D e cs → Calls Try.prog 57 #[.agg cs.toArray, .int .i64 deep] w fun e' w' => e' = .returned (.tuple #[.int .i64 (size3 e), .bool true]) ∧ Kp (fun _ => False) w w' := by
  refine Re.ind fun op set kids lo hi ih hg hsz w cs deep hwt h => ?_
  obtain ⟨A, c, rfl⟩ := h.cells
  simp only [wt] at hwt
  have hkl := wts_len kids
  have hgb := hg.bounds
  have hgk := hg.kids
  have hfit := sizes3_fit hg hsz
  have hgg := hg
  simp only [Good] at hgg
  replace hgb : Hide _ := ⟨hgb⟩
  replace hgg : Hide _ := ⟨hgg⟩
  refine enter (n := 138) (args := [.agg #[.string (B op), .string (B set), .slice A kids.length c, .int .i64 lo, .int .i64 hi], .int .i64 (deep : Int)]) Try.func57 rfl rfl rfl (by simp) ?_
  refine Wp.seq (Wp.region rfl ?_)
  simp -dsimp (maxSteps := 2000000) (disch := first | omega | (simp only [qZ] <;> omega) | fail) only [push_cast, ↓qP, ↓reduceIte, seval]
  obtain ⟨p, hp⟩ : ∃ p, p = w.heap.size := ⟨_, rfl⟩
  rw [← hp]
  refine Wp.gen (A := fun W => Kp (fun _ => False) w W ∧ Blk W p 33 [.string (B op), .string (B set), .slice A kids.length c, .int .i64 lo, .int .i64 hi]) ⟨(Kp.refl _ w).alloc _, by rw [hp]; exact Blk.new _ _ _⟩ ?_
  rintro w1 ⟨k1, hb1⟩
  have hltp := hb1.lt
  have cd : decide ((deep : Int) > 2000) = false := decide_eq_false (by omega)
  refine Wp.cut (fun F W => F 1 = .int .i64 (deep : Int) ∧ F 2 = .pointer (some ⟨p, 0, none⟩) ∧ F 6 = .bool (decide (op = opSet) || decide (op = opBol) || decide (op = opEol)) ∧ w1 = W) ?_ ?_
  · rcases hgg.out with ⟨rfl, hk, _⟩ | ⟨rfl, hk⟩ | ⟨rfl, hk⟩ | ⟨rfl, hk⟩ | ⟨rfl, hk⟩ | ⟨rfl, hk⟩
    · obtain ⟨e1, e2, e3, e4, e5, e6⟩ := ops_set
      repeat (first | refine qS ?_ | refine qB ?_ | refine qT rfl ?_ | refine qF rfl ?_ | ((first | refine qR rfl ?_ | refine qK ?_ | refine qE ?_ | refine qW ?_ | refine qM ?_); try simp -dsimp (maxSteps := 2000000) (disch := first | omega | (simp only [qZ] <;> omega) | fail) only [push_cast, ↓qP, ↓reduceIte, seval, hb1.rdc, e1, e2, e3]) | (refine qA ?_ ?_; (first | omega | (simp only [qL]; omega) | (simp only [qD] at *; omega))))
      exact Mid.mk ⟨by simp [upd, arg], by simp [upd], by simp [upd]; try decide, rfl⟩
    · obtain ⟨e1, e2, e3, e4, e5, e6⟩ := ops_bol
      repeat (first | refine qS ?_ | refine qB ?_ | refine qT rfl ?_ | refine qF rfl ?_ | ((first | refine qR rfl ?_ | refine qK ?_ | refine qE ?_ | refine qW ?_ | refine qM ?_); try simp -dsimp (maxSteps := 2000000) (disch := first | omega | (simp only [qZ] <;> omega) | fail) only [push_cast, ↓qP, ↓reduceIte, seval, hb1.rdc, e1, e2, e3]) | (refine qA ?_ ?_; (first | omega | (simp only [qL]; omega) | (simp only [qD] at *; omega))))
      exact Mid.mk ⟨by simp [upd, arg], by simp [upd], by simp [upd]; try decide, rfl⟩
    · obtain ⟨e1, e2, e3, e4, e5, e6⟩ := ops_eol
      repeat (first | refine qS ?_ | refine qB ?_ | refine qT rfl ?_ | refine qF rfl ?_ | ((first | refine qR rfl ?_ | refine qK ?_ | refine qE ?_ | refine qW ?_ | refine qM ?_); try simp -dsimp (maxSteps := 2000000) (disch := first | omega | (simp only [qZ] <;> omega) | fail) only [push_cast, ↓qP, ↓reduceIte, seval, hb1.rdc, e1, e2, e3]) | (refine qA ?_ ?_; (first | omega | (simp only [qL]; omega) | (simp only [qD] at *; omega))))
      exact Mid.mk ⟨by simp [upd, arg], by simp [upd], by simp [upd]; try decide, rfl⟩
    · obtain ⟨e1, e2, e3, e4, e5, e6⟩ := ops_cat
      repeat (first | refine qS ?_ | refine qB ?_ | refine qT rfl ?_ | refine qF rfl ?_ | ((first | refine qR rfl ?_ | refine qK ?_ | refine qE ?_ | refine qW ?_ | refine qM ?_); try simp -dsimp (maxSteps := 2000000) (disch := first | omega | (simp only [qZ] <;> omega) | fail) only [push_cast, ↓qP, ↓reduceIte, seval, hb1.rdc, e1, e2, e3]) | (refine qA ?_ ?_; (first | omega | (simp only [qL]; omega) | (simp only [qD] at *; omega))))
      exact Mid.mk ⟨by simp [upd, arg], by simp [upd], by simp [upd]; try decide, rfl⟩
    · obtain ⟨e1, e2, e3, e4, e5, e6⟩ := ops_alt
      repeat (first | refine qS ?_ | refine qB ?_ | refine qT rfl ?_ | refine qF rfl ?_ | ((first | refine qR rfl ?_ | refine qK ?_ | refine qE ?_ | refine qW ?_ | refine qM ?_); try simp -dsimp (maxSteps := 2000000) (disch := first | omega | (simp only [qZ] <;> omega) | fail) only [push_cast, ↓qP, ↓reduceIte, seval, hb1.rdc, e1, e2, e3]) | (refine qA ?_ ?_; (first | omega | (simp only [qL]; omega) | (simp only [qD] at *; omega))))
      exact Mid.mk ⟨by simp [upd, arg], by simp [upd], by simp [upd]; try decide, rfl⟩
    · obtain ⟨e1, e2, e3, e4, e5, e6⟩ := ops_rep
      repeat (first | refine qS ?_ | refine qB ?_ | refine qT rfl ?_ | refine qF rfl ?_ | ((first | refine qR rfl ?_ | refine qK ?_ | refine qE ?_ | refine qW ?_ | refine qM ?_); try simp -dsimp (maxSteps := 2000000) (disch := first | omega | (simp only [qZ] <;> omega) | fail) only [push_cast, ↓qP, ↓reduceIte, seval, hb1.rdc, e1, e2, e3]) | (refine qA ?_ ?_; (first | omega | (simp only [qL]; omega) | (simp only [qD] at *; omega))))
      exact Mid.mk ⟨by simp [upd, arg], by simp [upd], by simp [upd]; try decide, rfl⟩
  rintro F _ ⟨f1, f2, f6, rfl⟩
  refine Wp.cut (fun F W => F 1 = .int .i64 (deep : Int) ∧ F 2 = .pointer (some ⟨p, 0, none⟩) ∧ w1 = W) ?_ ?_
  · rcases hgg.out with ⟨rfl, hk, _⟩ | ⟨rfl, hk⟩ | ⟨rfl, hk⟩ | ⟨rfl, hk⟩ | ⟨rfl, hk, _⟩ | ⟨rfl, hk⟩
    · obtain ⟨e1, e2, e3, e4, e5, e6⟩ := ops_set
      rw [lf_set] at f6
      have ck : decide ((kids.length : Int) > 0) = false := decide_eq_false (by rw [hk]; simp)
      repeat (first | refine qS ?_ | refine qB ?_ | refine qT rfl ?_ | refine qF rfl ?_ | ((first | refine qR rfl ?_ | refine qK ?_ | refine qE ?_ | refine qW ?_ | refine qM ?_); try simp -dsimp (maxSteps := 2000000) (disch := first | omega | (simp only [qZ] <;> omega) | fail) only [push_cast, ↓qP, ↓reduceIte, seval, f1, f2, f6, cd, ck, hb1.rdc, e4]) | (refine qA ?_ ?_; (first | omega | (simp only [qL]; omega) | (simp only [qD] at *; omega))))
      exact Mid.mk ⟨by simp [upd, f1], by simp [upd, f2], rfl⟩
    · obtain ⟨e1, e2, e3, e4, e5, e6⟩ := ops_bol
      rw [lf_bol] at f6
      have ck : decide ((kids.length : Int) > 0) = false := decide_eq_false (by rw [hk]; simp)
      repeat (first | refine qS ?_ | refine qB ?_ | refine qT rfl ?_ | refine qF rfl ?_ | ((first | refine qR rfl ?_ | refine qK ?_ | refine qE ?_ | refine qW ?_ | refine qM ?_); try simp -dsimp (maxSteps := 2000000) (disch := first | omega | (simp only [qZ] <;> omega) | fail) only [push_cast, ↓qP, ↓reduceIte, seval, f1, f2, f6, cd, ck, hb1.rdc, e4]) | (refine qA ?_ ?_; (first | omega | (simp only [qL]; omega) | (simp only [qD] at *; omega))))
      exact Mid.mk ⟨by simp [upd, f1], by simp [upd, f2], rfl⟩
    · obtain ⟨e1, e2, e3, e4, e5, e6⟩ := ops_eol
      rw [lf_eol] at f6
      have ck : decide ((kids.length : Int) > 0) = false := decide_eq_false (by rw [hk]; simp)
      repeat (first | refine qS ?_ | refine qB ?_ | refine qT rfl ?_ | refine qF rfl ?_ | ((first | refine qR rfl ?_ | refine qK ?_ | refine qE ?_ | refine qW ?_ | refine qM ?_); try simp -dsimp (maxSteps := 2000000) (disch := first | omega | (simp only [qZ] <;> omega) | fail) only [push_cast, ↓qP, ↓reduceIte, seval, f1, f2, f6, cd, ck, hb1.rdc, e4]) | (refine qA ?_ ?_; (first | omega | (simp only [qL]; omega) | (simp only [qD] at *; omega))))
      exact Mid.mk ⟨by simp [upd, f1], by simp [upd, f2], rfl⟩
    · obtain ⟨e1, e2, e3, e4, e5, e6⟩ := ops_cat
      rw [lf_cat] at f6
      repeat (first | refine qS ?_ | refine qB ?_ | refine qT rfl ?_ | refine qF rfl ?_ | ((first | refine qR rfl ?_ | refine qK ?_ | refine qE ?_ | refine qW ?_ | refine qM ?_); try simp -dsimp (maxSteps := 2000000) (disch := first | omega | (simp only [qZ] <;> omega) | fail) only [push_cast, ↓qP, ↓reduceIte, seval, f1, f2, f6, cd, hb1.rdc, e4]) | (refine qA ?_ ?_; (first | omega | (simp only [qL]; omega) | (simp only [qD] at *; omega))))
      exact Mid.mk ⟨by simp [upd, f1], by simp [upd, f2], rfl⟩
    · obtain ⟨e1, e2, e3, e4, e5, e6⟩ := ops_alt
      rw [lf_alt] at f6
      have ck : ((kids.length : Int) == 0) = false := by simpa using hk
      repeat (first | refine qS ?_ | refine qB ?_ | refine qT rfl ?_ | refine qF rfl ?_ | ((first | refine qR rfl ?_ | refine qK ?_ | refine qE ?_ | refine qW ?_ | refine qM ?_); try simp -dsimp (maxSteps := 2000000) (disch := first | omega | (simp only [qZ] <;> omega) | fail) only [push_cast, ↓qP, ↓reduceIte, seval, f1, f2, f6, cd, ck, hb1.rdc, e4]) | (refine qA ?_ ?_; (first | omega | (simp only [qL]; omega) | (simp only [qD] at *; omega))))
      exact Mid.mk ⟨by simp [upd, f1], by simp [upd, f2], rfl⟩
    · obtain ⟨e1, e2, e3, e4, e5, e6⟩ := ops_rep
      rw [lf_rep] at f6
      repeat (first | refine qS ?_ | refine qB ?_ | refine qT rfl ?_ | refine qF rfl ?_ | ((first | refine qR rfl ?_ | refine qK ?_ | refine qE ?_ | refine qW ?_ | refine qM ?_); try simp -dsimp (maxSteps := 2000000) (disch := first | omega | (simp only [qZ] <;> omega) | fail) only [push_cast, ↓qP, ↓reduceIte, seval, f1, f2, f6, cd, hb1.rdc, e4]) | (refine qA ?_ ?_; (first | omega | (simp only [qL]; omega) | (simp only [qD] at *; omega))))
      exact Mid.mk ⟨by simp [upd, f1], by simp [upd, f2], rfl⟩
  clear f1 f2 f6
  rintro F _ ⟨f1, f2, rfl⟩
  refine Wp.seq (Wp.region rfl ?_)
  simp -dsimp (maxSteps := 2000000) (disch := first | omega | (simp only [qZ] <;> omega) | fail) only [push_cast, ↓qP, ↓reduceIte, seval]
  refine Wp.cut (fun F W => F 2 = .pointer (some ⟨p, 0, none⟩) ∧ F 7 = .int .i64 (sizes3 kids 0) ∧ Kp (fun _ => False) w W ∧ Blk W p 33 [.string (B op), .string (B set), .slice A kids.length c, .int .i64 lo, .int .i64 hi]) ?_ ?_
  · repeat (first | refine qS ?_ | refine qB ?_ | refine qT rfl ?_ | refine qF rfl ?_ | ((first | refine qR rfl ?_ | refine qK ?_ | refine qE ?_ | refine qW ?_ | refine qM ?_); try simp -dsimp (maxSteps := 2000000) (disch := first | omega | (simp only [qZ] <;> omega) | fail) only [push_cast, ↓qP, ↓reduceIte, seval, f2, hb1.rdc]) | (refine qA ?_ ?_; (first | omega | (simp only [qL]; omega) | (simp only [qD] at *; omega))))
    refine Wp.loop (α := Nat) (fun j F W => j ≤ kids.length ∧ F 1 = .int .i64 (deep : Int) ∧ F 2 = .pointer (some ⟨p, 0, none⟩) ∧ F 7 = .int .i64 (sizes3 (kids.take j) 0) ∧ F 49 = .slice A kids.length c ∧ F 50 = .int .i64 (kids.length : Int) ∧ F 51 = .int .i64 j ∧ Kp (fun _ => False) w W ∧ Blk W p 33 [.string (B op), .string (B set), .slice A kids.length c, .int .i64 lo, .int .i64 hi]) (fun j => kids.length - j) 0
      ⟨Nat.zero_le _, by simp [upd, f1], by simp [upd, f2], by simp [upd, sizes3], by simp [upd], by simp [upd], by simp [upd], k1, hb1⟩ ?_
    clear k1 hb1 hltp f1 f2
    rintro j F W ⟨hj, f1, f2, f7, f49, f50, f51, k1, hb1⟩
    have hltp := hb1.lt
    rcases Nat.lt_or_ge j kids.length with hlt | hge
    · have c1 : decide ((j : Int) < (kids.length : Int)) = true := decide_eq_true (by omega)
      have hget : kids[j]? = some kids[j] := List.getElem?_eq_getElem hlt
      obtain ⟨b, o, d0, d1, A1, m1, d2, lo1, hi1, rfl, hbl, hD, q0, q1, q2, q3, q4, hre, _⟩ := h.kid k1 hget
      have hmem : kids[j] ∈ kids := List.getElem_mem hlt
      have hgj := Goods_mem hgk hmem
      have hwj := wts_mem hmem
      obtain ⟨z1, z2, z3, z4, z5⟩ := sizes3_kid hg hsz hlt
      have z3' : decide (sizes3 (kids.take j) 0 + size3 kids[j] > 2000) = false := decide_eq_false (by omega)
      refine Sm.out ?_
      repeat (first | ((fail_if_success (first | refine qY (n := 8) ?_ | refine qV (n := 8) ?_)); refine qS ?_) | refine qB ?_ | refine qT rfl ?_ | refine qF rfl ?_ | ((first | refine qR rfl ?_ | refine qK ?_ | refine qE ?_ | refine qW ?_ | refine qM ?_); try simp -dsimp (maxSteps := 2000000) (disch := first | omega | (simp only [qZ] <;> omega) | fail) only [push_cast, ↓qP, ↓reduceIte, seval, f1, f2, f7, f49, f50, f51, c1, q0, q1, q2, q3, q4]) | (refine qA ?_ ?_; (first | omega | (simp only [qL]; omega) | (simp only [qD] at *; omega))))
      have hq := Blk.setAll (vs := [.string (B d0), .string (B d1), .slice A1 m1 d2, .int .i64 lo1, .int .i64 hi1]) (Blk.new W 33 zRe) rfl
      refine Wp.gen (w := (W.alloc (.cells zRe.toArray 33)).setCells W.heap.size 0 [.string (B d0), .string (B d1), .slice A1 m1 d2, .int .i64 lo1, .int .i64 hi1]) (A := fun W2 => Kp (fun _ => False) W W2 ∧ Blk W2 W.heap.size 33 [.string (B d0), .string (B d1), .slice A1 m1 d2, .int .i64 lo1, .int .i64 hi1]) ⟨((Kp.refl _ W).alloc _).setCells (fun h => absurd h (Nat.lt_irrefl _)) _ _, hq⟩ ?_
      rintro W2 ⟨k2, hq2⟩
      have hb2 := k2.Blk hb1 id
      have hltq := hq2.lt
      have hre2 := hre.Kp (D' := D) k2 (fun _ _ => id) (fun _ h => h)
      repeat (first | refine qS ?_ | refine qB ?_ | refine qT rfl ?_ | refine qF rfl ?_ | ((first | refine qR rfl ?_ | refine qK ?_ | refine qE ?_ | refine qW ?_ | refine qM ?_); try simp -dsimp (maxSteps := 2000000) (disch := first | omega | (simp only [qZ] <;> omega) | fail) only [push_cast, ↓qP, ↓reduceIte, seval, f1, f2, f7, f49, f50, f51, hq2.rdc]) | (refine qA ?_ ?_; (first | omega | (simp only [qL]; omega) | (simp only [qD] at *; omega))))
      refine CallV.of isCall_57 (ih _ hmem hgj z5 W2 _ (deep + 1) (by omega) hre2) ?_
      rintro _ W3 ⟨rfl, k3⟩
      have hb3 := k3.Blk hb2 id
      refine Sm.out ?_
      repeat (first | refine qS ?_ | refine qB ?_ | refine qT rfl ?_ | refine qF rfl ?_ | ((first | refine qR rfl ?_ | refine qK ?_ | refine qE ?_ | refine qW ?_ | refine qM ?_); try simp -dsimp (maxSteps := 2000000) (disch := first | omega | (simp only [qZ] <;> omega) | fail) only [push_cast, ↓qP, ↓reduceIte, seval, f1, f2, f7, f49, f50, f51, z3']) | (refine qA ?_ ?_; (first | omega | (simp only [qL]; omega) | (simp only [qD] at *; omega))))
      exact Again.mk (j + 1) ⟨by omega, by simp [upd, f1], by simp [upd, f2], by simp [upd, z2], by simp [upd, f49], by simp [upd, f50], by simp [upd], k1.trans (k2.trans k3), hb3⟩ (by omega)
    · obtain rfl : j = kids.length := by omega
      have c1 : decide ((kids.length : Int) < (kids.length : Int)) = false := decide_eq_false (by omega)
      rw [List.take_length] at f7
      repeat (first | refine qS ?_ | refine qB ?_ | refine qT rfl ?_ | refine qF rfl ?_ | ((first | refine qR rfl ?_ | refine qK ?_ | refine qE ?_ | refine qW ?_ | refine qM ?_); try simp -dsimp (maxSteps := 2000000) (disch := first | omega | (simp only [qZ] <;> omega) | fail) only [push_cast, ↓qP, ↓reduceIte, seval, f1, f2, f49, f50, f51, c1]) | (refine qA ?_ ?_; (first | omega | (simp only [qL]; omega) | (simp only [qD] at *; omega))))
      exact Mid.mk ⟨by simp [upd, f2], by simp [upd, f7], k1, hb1⟩
  clear k1 hb1 hltp f1 f2
  rintro F w2 ⟨f2, f7, k1, hb1⟩
  have hltp := hb1.lt
  have hz := hsz
  have hz2 : decide (size3 (.node op set kids lo hi) ≤ 2000) = true := decide_eq_true hsz
  obtain ⟨n1, n2, n3, n4, n5, n6, n7, n8, n9, n10, n11, n12, n13, n14, n15⟩ := op_ne
  rcases hgg.out with ⟨rfl, hk, _⟩ | ⟨rfl, hk⟩ | ⟨rfl, hk⟩ | ⟨rfl, hk⟩ | ⟨rfl, hk, _⟩ | ⟨rfl, hk, _⟩
  · simp only [size3, if_true] at hz2 ⊢
    obtain ⟨e1, e2, e3, e4, e5, e6⟩ := ops_set
    have hone : decide ((1 : Int) ≤ 2000) = true := rfl
    repeat (first | refine qS ?_ | refine qB ?_ | refine qT rfl ?_ | refine qF rfl ?_ | ((first | refine qR rfl ?_ | refine qK ?_ | refine qE ?_ | refine qW ?_ | refine qM ?_); try simp -dsimp (maxSteps := 2000000) (disch := first | omega | (simp only [qZ] <;> omega) | fail) only [push_cast, ↓qP, ↓reduceIte, seval, f2, f7, hb1.rdc, e1, e2, e3, e4, e5, e6, hone]) | (refine qA ?_ ?_; (first | omega | (simp only [qL]; omega) | (simp only [qD] at *; omega))))
    exact Ret.mk ⟨rfl, k1⟩
  · simp only [size3, Ne.symm n1, if_false, if_true] at hz2 ⊢
    obtain ⟨e1, e2, e3, e4, e5, e6⟩ := ops_bol
    have hone : decide ((1 : Int) ≤ 2000) = true := rfl
    repeat (first | refine qS ?_ | refine qB ?_ | refine qT rfl ?_ | refine qF rfl ?_ | ((first | refine qR rfl ?_ | refine qK ?_ | refine qE ?_ | refine qW ?_ | refine qM ?_); try simp -dsimp (maxSteps := 2000000) (disch := first | omega | (simp only [qZ] <;> omega) | fail) only [push_cast, ↓qP, ↓reduceIte, seval, f2, f7, hb1.rdc, e1, e2, e3, e4, e5, e6, hone]) | (refine qA ?_ ?_; (first | omega | (simp only [qL]; omega) | (simp only [qD] at *; omega))))
    exact Ret.mk ⟨rfl, k1⟩
  · simp only [size3, Ne.symm n2, Ne.symm n6, if_false, if_true] at hz2 ⊢
    obtain ⟨e1, e2, e3, e4, e5, e6⟩ := ops_eol
    have hone : decide ((1 : Int) ≤ 2000) = true := rfl
    repeat (first | refine qS ?_ | refine qB ?_ | refine qT rfl ?_ | refine qF rfl ?_ | ((first | refine qR rfl ?_ | refine qK ?_ | refine qE ?_ | refine qW ?_ | refine qM ?_); try simp -dsimp (maxSteps := 2000000) (disch := first | omega | (simp only [qZ] <;> omega) | fail) only [push_cast, ↓qP, ↓reduceIte, seval, f2, f7, hb1.rdc, e1, e2, e3, e4, e5, e6, hone]) | (refine qA ?_ ?_; (first | omega | (simp only [qL]; omega) | (simp only [qD] at *; omega))))
    exact Ret.mk ⟨rfl, k1⟩
  · simp only [size3, Ne.symm n3, Ne.symm n7, Ne.symm n10, n13, n14, if_false] at hz2 hz ⊢
    have hm : min (sizes3 kids 0) 2001 = sizes3 kids 0 := by omega
    rw [hm] at hz2 ⊢
    obtain ⟨e1, e2, e3, e4, e5, e6⟩ := ops_cat
    repeat (first | refine qS ?_ | refine qB ?_ | refine qT rfl ?_ | refine qF rfl ?_ | ((first | refine qR rfl ?_ | refine qK ?_ | refine qE ?_ | refine qW ?_ | refine qM ?_); try simp -dsimp (maxSteps := 2000000) (disch := first | omega | (simp only [qZ] <;> omega) | fail) only [push_cast, ↓qP, ↓reduceIte, seval, f2, f7, hb1.rdc, e1, e2, e3, e4, e5, e6, hz2]) | (refine qA ?_ ?_; (first | omega | (simp only [qL]; omega) | (simp only [qD] at *; omega))))
    exact Ret.mk ⟨rfl, k1⟩
  · simp only [size3, Ne.symm n4, Ne.symm n8, Ne.symm n11, if_false, if_true] at hz2 hz ⊢
    have hm : min (sizes3 kids 0 + 1) 2001 = sizes3 kids 0 + 1 := by omega
    rw [hm] at hz2 ⊢
    obtain ⟨e1, e2, e3, e4, e5, e6⟩ := ops_alt
    repeat (first | refine qS ?_ | refine qB ?_ | refine qT rfl ?_ | refine qF rfl ?_ | ((first | refine qR rfl ?_ | refine qK ?_ | refine qE ?_ | refine qW ?_ | refine qM ?_); try simp -dsimp (maxSteps := 2000000) (disch := first | omega | (simp only [qZ] <;> omega) | fail) only [push_cast, ↓qP, ↓reduceIte, seval, f2, f7, hb1.rdc, e1, e2, e3, e4, e5, e6, hz2]) | (refine qA ?_ ?_; (first | omega | (simp only [qL]; omega) | (simp only [qD] at *; omega))))
    exact Ret.mk ⟨rfl, k1⟩
  · obtain ⟨b1, b2, b3, b4, b5, b6⟩ := hgb.out rfl
    simp only [size3, Ne.symm n5, Ne.symm n9, Ne.symm n12, Ne.symm n15, if_false, if_true] at hz2 hz ⊢
    have hm : min (sizes3 kids 0 * (if hi < 0 then lo + 1 else max 1 hi) + 1) 2001 = sizes3 kids 0 * (if hi < 0 then lo + 1 else max 1 hi) + 1 := by omega
    rw [hm] at hz2 ⊢
    have g1 : ((kids.length : Int) != 1) = false := by rw [hk]; rfl
    have g2 : decide (lo < 0) = false := decide_eq_false (by omega)
    have g3 : decide (lo > 255) = false := decide_eq_false (by omega)
    have g4 : decide (hi > 255) = false := decide_eq_false (by omega)
    have g5 : decide (hi < -1) = false := decide_eq_false (by omega)
    have hmn : 0 ≤ sizes3 kids 0 * (if hi < 0 then lo + 1 else max 1 hi) := Int.mul_nonneg hfit.1 (by split <;> omega)
    obtain ⟨e1, e2, e3, e4, e5, e6⟩ := ops_rep
    rcases Bool.eq_false_or_eq_true (decide (hi < 0)) with c6 | c6
    · have c6' : hi < 0 := by simpa using c6
      rw [if_pos c6'] at hz2 hmn hm hz ⊢
      have g6 : decide (hi ≥ 0) = false := decide_eq_false (by omega)
      repeat (first | refine qS ?_ | refine qB ?_ | refine qT rfl ?_ | refine qF rfl ?_ | ((first | refine qR rfl ?_ | refine qK ?_ | refine qE ?_ | refine qW ?_ | refine qM ?_); try simp -dsimp (maxSteps := 2000000) (disch := first | omega | (simp only [qZ] <;> omega) | fail) only [push_cast, ↓qP, ↓reduceIte, seval, f2, f7, hb1.rdc, e1, e2, e3, e4, e5, e6, g1, g2, g3, g4, g5, g6, c6, hz2]) | (refine qA ?_ ?_; (first | omega | (simp only [qL]; omega) | (simp only [qD] at *; omega))))
      exact Ret.mk ⟨rfl, k1⟩
    · have c6' : ¬ hi < 0 := by simpa using c6
      rw [if_neg c6'] at hz2 hmn hm hz ⊢
      have g6 : decide (hi ≥ 0) = true := decide_eq_true (by omega)
      have g7 : decide (hi < lo) = false := decide_eq_false (by omega)
      repeat (first | refine qS ?_ | refine qB ?_ | refine qT rfl ?_ | refine qF rfl ?_ | ((first | refine qR rfl ?_ | refine qK ?_ | refine qE ?_ | refine qW ?_ | refine qM ?_); try simp -dsimp (maxSteps := 2000000) (disch := first | omega | (simp only [qZ] <;> omega) | fail) only [push_cast, ↓qP, ↓reduceIte, seval, f2, f7, hb1.rdc, e1, e2, e3, e4, e5, e6, g1, g2, g3, g4, g5, g6, g7, c6, hz2]) | (refine qA ?_ ?_; (first | omega | (simp only [qL]; omega) | (simp only [qD] at *; omega))))
      exact Ret.mk ⟨rfl, k1⟩
end
end Go.Proofs.Ytddichibegppjaa

/- The reference's split into letters. -/
namespace Go.Proofs.Ytddichibegppjaa
open Go Go.VC

def letters (s : List UInt8) : List (List UInt8) := s.map fun c => [c]
theorem letters_step {s : List UInt8} {k : Nat} (hk : k < s.length) : letters (s.take (k + 1)) = letters (s.take k) ++ [(s.drop k).take 1] := by
  rw [letters, letters, List.take_add_one, List.map_append, List.getElem?_eq_getElem hk, List.drop_eq_getElem_cons hk]
  rfl
theorem split3_letters (s : List UInt8) (b : Bool) (w : World) (hs : s.length ≤ 1000000) : Splits3 w s [] b (letters s) := by
  unfold Splits3
  refine enter (n := 173) (args := [.string (B s), .string (B []), .bool b]) Try.func35 rfl rfl rfl (by simp) ?_
  rcases Bool.eq_false_or_eq_true (s == []) with h1 | h1
  · have hs0 : s = [] := by simpa using h1
    repeat (first | refine qS ?_ | refine qB ?_ | refine qT rfl ?_ | refine qF rfl ?_ | ((first | refine qR rfl ?_ | refine qK ?_ | refine qE ?_ | refine qW ?_ | refine qM ?_); try simp -dsimp (disch := first | omega | (simp only [qZ] <;> omega) | fail) only [push_cast, ↓qP, ↓reduceIte, seval, h1]) | (refine qA ?_ ?_; (first | omega | (simp only [qL]; omega) | (simp only [qD] at *; omega))))
    subst hs0
    exact Ret.mk ⟨none, 0, rfl, Own.nil _ _ _, Kp.refl _ _⟩
  have h2 : (([] : List UInt8) == [32]) = false := rfl
  repeat (first | refine qS ?_ | refine qB ?_ | refine qT rfl ?_ | refine qF rfl ?_ | ((first | refine qR rfl ?_ | refine qK ?_ | refine qE ?_ | refine qW ?_ | refine qM ?_); try simp -dsimp (disch := first | omega | (simp only [qZ] <;> omega) | fail) only [push_cast, ↓qP, ↓reduceIte, seval, h1, h2]) | (refine qA ?_ ?_; (first | omega | (simp only [qL]; omega) | (simp only [qD] at *; omega))))
  refine Wp.loop (α := Nat) (fun k F w2 => ∃ A cap, F 0 = .string (B s) ∧ F 8 = .slice A (letters (s.take k)).length cap ∧ F 19 = .int .i64 k ∧ k ≤ s.length ∧
      Own w2 9 1 A (letters (s.take k)).length cap (St (letters (s.take k))) ∧ (∀ g, bk A = some g → w.heap.size ≤ g) ∧ Kp0 w w2) (fun k => s.length - k) 0
    ⟨none, 0, ?_, ?_, ?_, by omega, Own.nil _ _ _, by simp [bk], Kp.refl _ _⟩ ?_
  · simp -dsimp (disch := first | omega | (simp only [qZ] <;> omega) | fail) only [push_cast, ↓qP, ↓reduceIte, seval]
  · simp -dsimp (disch := first | omega | (simp only [qZ] <;> omega) | fail) only [push_cast, ↓qP, ↓reduceIte, seval]
    rfl
  · simp -dsimp (disch := first | omega | (simp only [qZ] <;> omega) | fail) only [push_cast, ↓qP, ↓reduceIte, seval]
  rintro k F w2 ⟨A, cap, f0, f8, f19, hk, hown, hnew, hkp⟩
  rcases Bool.eq_false_or_eq_true (decide ((k : Int) < (s.length : Int))) with h4 | h4
  · have hk' : k < s.length := by simpa using h4
    have hwr : IntKind.i64.wrap ((k : Int) + 1) = ((k + 1 : Nat) : Int) := by rw [wrap_id (by omega)]; omega
    have hll : (letters (s.take k)).length = k := by rw [letters, List.length_map, List.length_take]; omega
    repeat (first | refine qS ?_ | refine qB ?_ | refine qT rfl ?_ | refine qF rfl ?_ | ((first | refine qR rfl ?_ | refine qK ?_ | refine qE ?_ | refine qW ?_ | refine qM ?_); try simp -dsimp (disch := first | omega | (simp only [qZ] <;> omega) | fail) only [push_cast, ↓qP, ↓reduceIte, seval, f0, f8, f19, h4, hwr]) | (refine qA ?_ ?_; (first | omega | (simp only [qL]; omega) | (simp only [qD] at *; omega))))
    refine V_append (m := 1) _ _ _ rfl mk_54 rfl (hown.alloc _) rfl [.string (B ((s.drop k).take 1))] ?r rfl (by omega) (by omega) ?k
    case r =>
      simp -dsimp (disch := first | omega | (simp only [qZ] <;> omega) | fail) only [push_cast, ↓qP, ↓reduceIte, seval]
      rw [show ((k : Int) + 1).toNat - k = 1 by omega]
    case k =>
      intro A' cap' w3 hown' hgrow hat
      refine Sm.out ?_
      repeat (first | refine qS ?_ | refine qB ?_ | refine qT rfl ?_ | refine qF rfl ?_ | ((first | refine qR rfl ?_ | refine qK ?_ | refine qE ?_ | refine qW ?_ | refine qM ?_); try simp -dsimp (disch := first | omega | (simp only [qZ] <;> omega) | fail) only [push_cast, ↓qP, ↓reduceIte, seval, f0, f19, hwr]) | (refine qA ?_ ?_; (first | omega | (simp only [qL]; omega) | (simp only [qD] at *; omega))))
      refine Again.mk (k + 1) ⟨A', cap', ?_, ?_, ?_, by omega, ?_, ?_, (hkp.alloc _).grown hgrow (fun g hg hlt => by have := hnew g hg; omega)⟩ (by omega)
      · simp -dsimp (disch := first | omega | (simp only [qZ] <;> omega) | fail) only [push_cast, ↓qP, ↓reduceIte, seval, f0]
      · rw [letters_step hk']
        simp -dsimp (disch := first | omega | (simp only [qZ] <;> omega) | fail) only [push_cast, ↓qP, ↓reduceIte, seval, List.length_append]
      · simp -dsimp (disch := first | omega | (simp only [qZ] <;> omega) | fail) only [push_cast, ↓qP, ↓reduceIte, seval, hwr]
      · rw [letters_step hk', St_append, List.length_append]; exact hown'
      · intro g hg
        rcases hat with h | h
        · exact hnew g (h ▸ hg)
        · rw [h] at hg; simp at hg; subst hg; have := hkp.size; simp; omega
  · have hk' : k = s.length := by have : ¬ k < s.length := by simpa using h4
                                  omega
    subst hk'
    rw [List.take_length] at *
    repeat (first | refine qS ?_ | refine qB ?_ | refine qT rfl ?_ | refine qF rfl ?_ | ((first | refine qR rfl ?_ | refine qK ?_ | refine qE ?_ | refine qW ?_ | refine qM ?_); try simp -dsimp (disch := first | omega | (simp only [qZ] <;> omega) | fail) only [push_cast, ↓qP, ↓reduceIte, seval, f0, f8, f19, h4]) | (refine qA ?_ ?_; (first | omega | (simp only [qL]; omega) | (simp only [qD] at *; omega))))
    exact Ret.mk ⟨A, cap, rfl, hown, hkp⟩
end Go.Proofs.Ytddichibegppjaa

/- The program's reader of expressions: its state, peek, take, digits. -/
namespace Go.Proofs.Ytddichibegppjaa
open Go Go.VC Go.RowKit

/-- The reader: what is left of the text, and how deep it stands. -/
def Rd (w : World) (a : Nat) (l : List UInt8) (i : Nat) (d : Int) : Prop := Blk w a 133 [.string (B (l.drop i)), .int .i64 d]
theorem Rd.blk {w : World} {a : Nat} {l : List UInt8} {i : Nat} {d : Int} (h : Rd w a l i d) : Blk w a 133 [.string (B (l.drop i)), .int .i64 d] := h
/-- A fault. -/
def flt (k : Int) : List PanicEntry := [{ v := .iface 130 (.int .i64 k), recovered := false }]
def Pn (w : World) (a : Nat) (e : Ending) (w' : World) : Prop := ∃ k : Int, e = .panicked (flt k) ∧ 1 ≤ k ∧ k ≤ 5 ∧ Kp (fun b => b = a) w w'
def hasAt (l : List UInt8) (i : Nat) (c : UInt8) : Bool := decide (i < l.length) && byteAt l i == c

theorem drop_at {l : List UInt8} {i : Nat} (h : i < l.length) : l.drop i = byteAt l i :: l.drop (i + 1) := by
  rw [List.drop_eq_getElem_cons h]; simp [byteAt, List.getD_eq_getElem?_getD, h]
theorem getD_drop (l : List UInt8) (i j : Nat) : (l.drop i).getD j 0 = byteAt l (i + j) := by
  simp [byteAt, List.getD_eq_getElem?_getD, List.getElem?_drop]
theorem empty_iff {l : List UInt8} {i : Nat} : (l.drop i == []) = decide (l.length ≤ i) := by
  rw [Bool.eq_iff_iff, beq_iff_eq, decide_eq_true_eq, List.drop_eq_nil_iff]
theorem pre1 (l : List UInt8) (i : Nat) (c : UInt8) : Lib.hasPrefix (l.drop i) [c] = hasAt l i c := by
  unfold Lib.hasPrefix hasAt
  rcases Nat.lt_or_ge i l.length with h | h
  · rw [drop_at h, decide_eq_true h]
    simp only [List.isPrefixOf, Bool.and_true, Bool.true_and]
    rw [Bool.eq_iff_iff, beq_iff_eq, beq_iff_eq]; exact eq_comm
  · rw [List.drop_of_length_le h, decide_eq_false (by omega)]; rfl
theorem pre2 (l : List UInt8) (i : Nat) (c e : UInt8) : Lib.hasPrefix (l.drop i) [c, e] = (hasAt l i c && hasAt l (i + 1) e) := by
  unfold Lib.hasPrefix
  rcases Nat.lt_or_ge i l.length with h | h
  · have := pre1 l (i + 1) e
    unfold Lib.hasPrefix at this
    rw [drop_at h]
    show (c == byteAt l i && List.isPrefixOf [e] (l.drop (i + 1))) = _
    rw [this]
    unfold hasAt
    rw [decide_eq_true h, Bool.true_and]
    congr 1
    rw [Bool.eq_iff_iff, beq_iff_eq, beq_iff_eq]; exact eq_comm
  · rw [List.drop_of_length_le h]; unfold hasAt; rw [decide_eq_false (by omega : ¬ i < l.length)]; rfl
theorem trim_of (l : List UInt8) (i : Nat) (p : List UInt8) : Lib.trimPrefix (l.drop i) p = l.drop (if Lib.hasPrefix (l.drop i) p then i + p.length else i) := by
  unfold Lib.trimPrefix
  split
  · rw [List.drop_drop]
  · rfl

section
variable {w : World} {a : Nat} {l : List UInt8} {i : Nat} {d : Int}
theorem Rd.keep {w' : World} {S : Nat → Prop} (h : Rd w a l i d) (k : Kp S w w') (hs : ¬ S a) : Rd w' a l i d := k.Blk h.blk hs
theorem Rd.lt (h : Rd w a l i d) : a < w.heap.size := h.blk.lt
theorem Rd.drew (h : Rd w a l i d) : Rd w.drew a l i d := h
theorem Rd.alloc (h : Rd w a l i d) (o : Obj) : Rd (w.alloc o) a l i d := h.blk.alloc o

theorem peek_any (h : Rd w a l i d) : Calls Try.prog 96 #[.pointer (some ⟨a, 0, none⟩)] w fun e w' => e = .returned (.tuple #[.int .u8 (if i < l.length then ((byteAt l i).toNat : Int) else 0), .bool (decide (i < l.length))]) ∧ w = w' := by
  refine enter (n := 14) (args := [.pointer (some ⟨a, 0, none⟩)]) Try.func96 rfl rfl rfl (by simp) ?_
  have hb := h.blk.rdc
  have he := empty_iff (l := l) (i := i)
  rcases Nat.lt_or_ge i l.length with hi | hi
  · rw [decide_eq_false (by omega)] at he
    have hg := getD_drop l i 0
    have hl : 0 < (l.drop i).length := by simp; omega
    rw [if_pos hi, decide_eq_true hi]
    repeat (first | refine qS ?_ | refine qB ?_ | refine qT rfl ?_ | refine qF rfl ?_ | ((first | refine qR rfl ?_ | refine qK ?_ | refine qE ?_ | refine qW ?_ | refine qM ?_); try simp -dsimp (maxSteps := 2000000) (disch := first | omega | (simp only [qZ] <;> omega) | fail) only [push_cast, ↓qP, ↓reduceIte, seval, hb, he, hg]) | (refine qA ?_ ?_; (first | omega | (simp only [qL]; omega) | (simp only [qD] at *; omega))))
    exact Ret.mk ⟨rfl, rfl⟩
  · rw [decide_eq_true hi] at he
    rw [if_neg (by omega), decide_eq_false (by omega)]
    repeat (first | refine qS ?_ | refine qB ?_ | refine qT rfl ?_ | refine qF rfl ?_ | ((first | refine qR rfl ?_ | refine qK ?_ | refine qE ?_ | refine qW ?_ | refine qM ?_); try simp -dsimp (maxSteps := 2000000) (disch := first | omega | (simp only [qZ] <;> omega) | fail) only [push_cast, ↓qP, ↓reduceIte, seval, hb, he]) | (refine qA ?_ ?_; (first | omega | (simp only [qL]; omega) | (simp only [qD] at *; omega))))
    exact Ret.mk ⟨rfl, rfl⟩

theorem take_any (h : Rd w a l i d) (p : List UInt8) : Calls Try.prog 89 #[.pointer (some ⟨a, 0, none⟩), .string (B p)] w fun e w' =>
    e = .returned (.bool (Lib.hasPrefix (l.drop i) p)) ∧ Rd w' a l (if Lib.hasPrefix (l.drop i) p then i + p.length else i) d ∧ Kp (fun b => b = a) w w' := by
  refine enter (n := 21) (args := [.pointer (some ⟨a, 0, none⟩), .string (B p)]) Try.func89 rfl rfl rfl (by simp) ?_
  have hb := h.blk.rdc
  have hz := h.blk.fz
  repeat (first | refine qS ?_ | refine qB ?_ | refine qT rfl ?_ | refine qF rfl ?_ | ((first | refine qR rfl ?_ | refine qK ?_ | refine qE ?_ | refine qW ?_ | refine qM ?_); try simp -dsimp (maxSteps := 2000000) (disch := first | omega | (simp only [qZ] <;> omega) | fail) only [push_cast, ↓qP, ↓reduceIte, seval, hb]) | (refine qA ?_ ?_; (first | omega | (simp only [qL]; omega) | (simp only [qD] at *; omega))))
  refine CallV.of isCall_99 (Try.strings_CutPrefix _ _ _) ?_
  rintro _ _ ⟨rfl, rfl⟩
  rw [B_toList, B_toList, trim_of]
  refine Sm.out ?_
  repeat (first | refine qS ?_ | refine qB ?_ | refine qT rfl ?_ | refine qF rfl ?_ | ((first | refine qR rfl ?_ | refine qK ?_ | refine qE ?_ | refine qW ?_ | refine qM ?_); try simp -dsimp (maxSteps := 2000000) (disch := first | omega | (simp only [qZ] <;> omega) | fail) only [push_cast, ↓qP, ↓reduceIte, seval, hb, hz]) | (refine qA ?_ ?_; (first | omega | (simp only [qL]; omega) | (simp only [qD] at *; omega))))
  refine Ret.mk ⟨rfl, ?_, (Kp.refl (fun b => b = a) _).setCell (fun _ => rfl) _⟩
  exact h.blk.set 0 _
theorem take_one (h : Rd w a l i d) (c : UInt8) : Calls Try.prog 89 #[.pointer (some ⟨a, 0, none⟩), .string (B [c])] w fun e w' =>
    e = .returned (.bool (hasAt l i c)) ∧ Rd w' a l (if hasAt l i c then i + 1 else i) d ∧ Kp (fun b => b = a) w w' := by
  have := take_any h [c]
  rw [pre1] at this
  exact this
theorem take_two (h : Rd w a l i d) (c e : UInt8) : Calls Try.prog 89 #[.pointer (some ⟨a, 0, none⟩), .string (B [c, e])] w fun e' w' =>
    e' = .returned (.bool (hasAt l i c && hasAt l (i + 1) e)) ∧ Rd w' a l (if (hasAt l i c && hasAt l (i + 1) e) then i + 2 else i) d ∧ Kp (fun b => b = a) w w' := by
  have := take_any h [c, e]
  rw [pre2] at this
  exact this

/-- Where a run of digits ends. -/
def runD (l : List UInt8) (g : UInt8) : Nat → Nat → Nat
  | 0, i => i
  | k + 1, i => if decide (i < l.length) && digs 48 g (byteAt l i) then runD l g k (i + 1) else i
theorem runD_le (l : List UInt8) (g : UInt8) : ∀ (k i : Nat), i ≤ runD l g k i ∧ runD l g k i ≤ max i l.length ∧ runD l g k i ≤ i + k
  | 0, i => by simp [runD]; omega
  | k + 1, i => by
    unfold runD
    split
    · rename_i h
      simp at h
      have := runD_le l g k (i + 1)
      omega
    · omega

theorem digits_any (h : Rd w a l i d) (hi : i ≤ l.length) (hl : l.length ≤ 1000000) (g : UInt8) (m : Nat) (hm : m ≤ 1000000) : Calls Try.prog 109 #[.pointer (some ⟨a, 0, none⟩), .int .u8 (g.toNat : Int), .int .i64 (m : Int)] w fun e w' =>
    e = .returned (.string (B ((l.drop i).take (runD l g m i - i)))) ∧ Rd w' a l (runD l g m i) d ∧ Kp (fun b => b = a) w w' := by
  refine enter (n := 58) (args := [.pointer (some ⟨a, 0, none⟩), .int .u8 (g.toNat : Int), .int .i64 (m : Int)]) Try.func109 rfl rfl rfl (by simp) ?_
  have hb := h.blk.rdc
  have hz := h.blk.fz
  have hlt := h.lt
  obtain ⟨N, hN⟩ : ∃ N, N = runD l g m i := ⟨_, rfl⟩
  rw [← hN]
  refine Sm.out ?_
  repeat (first | ((fail_if_success (first | refine qX (n := 0) ?_)); refine qS ?_) | refine qB ?_ | refine qT rfl ?_ | refine qF rfl ?_ | ((first | refine qR rfl ?_ | refine qK ?_ | refine qE ?_ | refine qW ?_ | refine qM ?_); try simp -dsimp (maxSteps := 2000000) (disch := first | omega | (simp only [qZ] <;> omega) | fail) only [push_cast, ↓qP, ↓reduceIte, seval]) | (refine qA ?_ ?_; (first | omega | (simp only [qL]; omega) | (simp only [qD] at *; omega))))
  refine Wp.cut (fun F W => F 0 = .pointer (some ⟨a, 0, none⟩) ∧ F 7 = .int .i64 ((N : Int) - (i : Int)) ∧ W = w) ?_ ?_
  · refine Wp.block ?_
    refine Wp.loop (α := Nat) (fun k F W => F 0 = .pointer (some ⟨a, 0, none⟩) ∧ F 1 = .int .u8 (g.toNat : Int) ∧ F 2 = .int .i64 (m : Int) ∧ F 7 = .int .i64 (k : Int) ∧ k ≤ m ∧ i + k ≤ max i l.length ∧ runD l g (m - k) (i + k) = N ∧ W = w) (fun k => m - k) 0
      ⟨by simp [upd, arg], by simp [upd, arg], by simp [upd, arg], by simp [upd], by omega, by omega, by rw [hN]; rfl, rfl⟩ ?_
    rintro k F W ⟨f0, f1, f2, f7, hk, hki, hr, rfl⟩
    have hll : (l.drop i).length = l.length - i := by simp
    have stop : runD l g (m - k) (i + k) = i + k → (N : Int) - (i : Int) = k := by omega
    rcases Nat.lt_or_ge (i + k) l.length with h1 | h1
    case inr =>
      have c1 : decide ((k : Int) < (l.length : Int) - (i : Int)) = false := decide_eq_false (by omega)
      have : (N : Int) - (i : Int) = k := by
        refine stop ?_
        cases m - k with
        | zero => rfl
        | succ n => unfold runD; rw [decide_eq_false (by omega : ¬ i + k < l.length)]; rfl
      repeat (first | refine qS ?_ | refine qB ?_ | refine qT rfl ?_ | refine qF rfl ?_ | ((first | refine qR rfl ?_ | refine qK ?_ | refine qE ?_ | refine qW ?_ | refine qM ?_); try simp -dsimp (maxSteps := 2000000) (disch := first | omega | (simp only [qZ] <;> omega) | fail) only [push_cast, ↓qP, ↓reduceIte, seval, f0, f7, hb, hll, c1]) | (refine qA ?_ ?_; (first | omega | (simp only [qL]; omega) | (simp only [qD] at *; omega))))
      exact Mid.mk ⟨by simp [upd, f0], by simp [upd, f7, this], rfl⟩
    have c1 : decide ((k : Int) < (l.length : Int) - (i : Int)) = true := decide_eq_true (by omega)
    rcases Nat.lt_or_ge k m with h2 | h2
    case inr =>
      have c2 : decide ((k : Int) < (m : Int)) = false := decide_eq_false (by omega)
      have : (N : Int) - (i : Int) = k := stop (by rw [show m - k = 0 by omega]; rfl)
      repeat (first | refine qS ?_ | refine qB ?_ | refine qT rfl ?_ | refine qF rfl ?_ | ((first | refine qR rfl ?_ | refine qK ?_ | refine qE ?_ | refine qW ?_ | refine qM ?_); try simp -dsimp (maxSteps := 2000000) (disch := first | omega | (simp only [qZ] <;> omega) | fail) only [push_cast, ↓qP, ↓reduceIte, seval, f0, f2, f7, hb, hll, c1, c2]) | (refine qA ?_ ?_; (first | omega | (simp only [qL]; omega) | (simp only [qD] at *; omega))))
      exact Mid.mk ⟨by simp [upd, f0], by simp [upd, f7, this], rfl⟩
    have c2 : decide ((k : Int) < (m : Int)) = true := decide_eq_true (by omega)
    have hg := getD_drop l i k
    have hkl : k < (l.drop i).length := by omega
    have un : runD l g (m - k) (i + k) = if digs 48 g (byteAt l (i + k)) then runD l g (m - (k + 1)) (i + (k + 1)) else i + k := by
      rw [show m - k = (m - (k + 1)) + 1 by omega]
      show (if decide (i + k < l.length) && digs 48 g (byteAt l (i + k)) then _ else _) = _
      rw [decide_eq_true h1, Bool.true_and]; rfl
    unfold digs at un
    rcases Bool.eq_false_or_eq_true (decide ((48 : UInt8).toNat ≤ (byteAt l (i + k)).toNat)) with h3 | h3
    case inr =>
      have c3 : decide ((48 : Int) ≤ ((byteAt l (i + k)).toNat : Int)) = false := decide_eq_false (by have := of_decide_eq_false h3; have e : (48 : UInt8).toNat = 48 := rfl; omega)
      have : (N : Int) - (i : Int) = k := stop (by rw [un, h3]; rfl)
      repeat (first | refine qS ?_ | refine qB ?_ | refine qT rfl ?_ | refine qF rfl ?_ | ((first | refine qR rfl ?_ | refine qK ?_ | refine qE ?_ | refine qW ?_ | refine qM ?_); try simp -dsimp (maxSteps := 2000000) (disch := first | omega | (simp only [qZ] <;> omega) | fail) only [push_cast, ↓qP, ↓reduceIte, seval, f0, f2, f7, hb, hll, c1, c2, hg, c3]) | (refine qA ?_ ?_; (first | omega | (simp only [qL]; omega) | (simp only [qD] at *; omega))))
      exact Mid.mk ⟨by simp [upd, f0], by simp [upd, f7, this], rfl⟩
    have c3 : decide ((48 : Int) ≤ ((byteAt l (i + k)).toNat : Int)) = true := decide_eq_true (by have := of_decide_eq_true h3; have e : (48 : UInt8).toNat = 48 := rfl; omega)
    rcases Bool.eq_false_or_eq_true (decide ((byteAt l (i + k)).toNat ≤ g.toNat)) with h4 | h4
    case inr =>
      have c4 : decide (((byteAt l (i + k)).toNat : Int) ≤ (g.toNat : Int)) = false := decide_eq_false (by have := of_decide_eq_false h4; omega)
      have : (N : Int) - (i : Int) = k := stop (by rw [un, h3, h4]; rfl)
      repeat (first | refine qS ?_ | refine qB ?_ | refine qT rfl ?_ | refine qF rfl ?_ | ((first | refine qR rfl ?_ | refine qK ?_ | refine qE ?_ | refine qW ?_ | refine qM ?_); try simp -dsimp (maxSteps := 2000000) (disch := first | omega | (simp only [qZ] <;> omega) | fail) only [push_cast, ↓qP, ↓reduceIte, seval, f0, f1, f2, f7, hb, hll, c1, c2, hg, c3, c4]) | (refine qA ?_ ?_; (first | omega | (simp only [qL]; omega) | (simp only [qD] at *; omega))))
      exact Mid.mk ⟨by simp [upd, f0], by simp [upd, f7, this], rfl⟩
    have c4 : decide (((byteAt l (i + k)).toNat : Int) ≤ (g.toNat : Int)) = true := decide_eq_true (by have := of_decide_eq_true h4; omega)
    rw [h3, h4] at un
    repeat (first | refine qS ?_ | refine qB ?_ | refine qT rfl ?_ | refine qF rfl ?_ | ((first | refine qR rfl ?_ | refine qK ?_ | refine qE ?_ | refine qW ?_ | refine qM ?_); try simp -dsimp (maxSteps := 2000000) (disch := first | omega | (simp only [qZ] <;> omega) | fail) only [push_cast, ↓qP, ↓reduceIte, seval, f0, f1, f2, f7, hb, hll, c1, c2, hg, c3, c4]) | (refine qA ?_ ?_; (first | omega | (simp only [qL]; omega) | (simp only [qD] at *; omega))))
    exact Again.mk (k + 1) ⟨by simp [upd, f0], by simp [upd, f1], by simp [upd, f2], by simp [upd], by omega, by omega, by rw [← hr, un]; rfl, rfl⟩ (by omega)
  rintro F W ⟨f0, f7, rfl⟩
  have hN1 := runD_le l g m i
  rw [← hN] at hN1
  have hll : (l.drop i).length = l.length - i := by simp
  have hNi : ((N : Int) - (i : Int)).toNat = N - i := by omega
  have hli : ((l.length : Int) - (i : Int)).toNat = l.length - i := by omega
  have htl : (l.drop i).drop (N - i) = l.drop N := by rw [List.drop_drop]; congr 1; omega
  have htt : ((l.drop N).take (l.length - i - (N - i))) = l.drop N := List.take_of_length_le (by simp; omega)
  repeat (first | refine qS ?_ | refine qB ?_ | refine qT rfl ?_ | refine qF rfl ?_ | ((first | refine qR rfl ?_ | refine qK ?_ | refine qE ?_ | refine qW ?_ | refine qM ?_); try simp -dsimp (maxSteps := 2000000) (disch := first | omega | (simp only [qZ] <;> omega) | fail) only [push_cast, ↓qP, ↓reduceIte, seval, f0, f7, hb, hz, hll, hli, hNi, htl, htt, Nat.sub_zero]) | (refine qA ?_ ?_; (first | omega | (simp only [qL]; omega) | (simp only [qD] at *; omega))))
  exact Ret.mk ⟨rfl, h.blk.set 0 _, (Kp.refl (fun b => b = a) _).setCell (fun _ => rfl) _⟩
end
end Go.Proofs.Ytddichibegppjaa

/- The program's reader: escaped, count. -/
namespace Go.Proofs.Ytddichibegppjaa
open Go Go.VC Go.RowKit

def octF (x : List UInt8) (n : Nat) : Nat := x.foldl (fun n c => 8 * n + (c.toNat - 48)) n
theorem run_step {l : List UInt8} {g : UInt8} {k i : Nat} (h1 : i < l.length) (h2 : digs 48 g (byteAt l i) = true) : runD l g (k + 1) i = runD l g k (i + 1) ∧ (l.drop i).take (runD l g (k + 1) i - i) = byteAt l i :: (l.drop (i + 1)).take (runD l g k (i + 1) - (i + 1)) := by
  have e : runD l g (k + 1) i = runD l g k (i + 1) := by
    show (if decide (i < l.length) && digs 48 g (byteAt l i) then _ else _) = _
    rw [decide_eq_true h1, h2]; rfl
  have := runD_le l g k (i + 1)
  refine ⟨e, ?_⟩
  rw [e, drop_at h1, show runD l g k (i + 1) - i = (runD l g k (i + 1) - (i + 1)) + 1 by omega, List.take_succ_cons]
theorem run_stop {l : List UInt8} {g : UInt8} {k i : Nat} (h : (decide (i < l.length) && digs 48 g (byteAt l i)) = false) : runD l g k i = i := by
  cases k with
  | zero => rfl
  | succ k => unfold runD; rw [h]; rfl
theorem oct_run (l : List UInt8) : ∀ (k i n : Nat), oct3 l k i n = (octF ((l.drop i).take (runD l 55 k i - i)) n, runD l 55 k i)
  | 0, i, n => by simp [oct3, runD, octF]
  | k + 1, i, n => by
    unfold oct3
    by_cases h : (decide (i < l.length) && digs 48 55 (byteAt l i)) = true
    · rw [if_pos h, oct_run l k (i + 1)]
      simp only [Bool.and_eq_true, decide_eq_true_eq] at h
      obtain ⟨e1, e2⟩ := run_step (k := k) h.1 h.2
      rw [e2, e1]; rfl
    · rw [if_neg h, run_stop (by simpa using h)]
      simp [octF]
theorem run_digs (l : List UInt8) (g : UInt8) : ∀ (k i : Nat) (c : UInt8), c ∈ (l.drop i).take (runD l g k i - i) → digs 48 g c = true
  | 0, i, c, h => by simp [runD] at h
  | k + 1, i, c, h => by
    by_cases hc : (decide (i < l.length) && digs 48 g (byteAt l i)) = true
    · have hc' := hc
      simp only [Bool.and_eq_true, decide_eq_true_eq] at hc'
      obtain ⟨e1, e2⟩ := run_step (k := k) hc'.1 hc'.2
      rw [e2] at h
      rcases List.mem_cons.1 h with h | h
      · rw [h]; exact hc'.2
      · exact run_digs l g k (i + 1) c h
    · rw [run_stop (by simpa using hc)] at h
      simp at h
theorem esc_idx : ∀ n : Fin 256, (0 ≤ Lib.indexByte [97, 98, 116, 110, 118, 102, 114] (UInt8.ofNat n) ∧ Lib.indexByte [97, 98, 116, 110, 118, 102, 114] (UInt8.ofNat n) ≤ 6 ∧ ((escMap (UInt8.ofNat n)).toNat : Int) = 7 + Lib.indexByte [97, 98, 116, 110, 118, 102, 114] (UInt8.ofNat n)) ∨
    (Lib.indexByte [97, 98, 116, 110, 118, 102, 114] (UInt8.ofNat n) = -1 ∧ escMap (UInt8.ofNat n) = UInt8.ofNat n) := by decide +kernel
theorem esc_idx' (c : UInt8) : (0 ≤ Lib.indexByte [97, 98, 116, 110, 118, 102, 114] c ∧ Lib.indexByte [97, 98, 116, 110, 118, 102, 114] c ≤ 6 ∧ ((escMap c).toNat : Int) = 7 + Lib.indexByte [97, 98, 116, 110, 118, 102, 114] c) ∨
    (Lib.indexByte [97, 98, 116, 110, 118, 102, 114] c = -1 ∧ escMap c = c) := by
  have := esc_idx ⟨c.toNat, c.toNat_lt⟩
  simpa using this
theorem wrap8 (n : Nat) : IntKind.u8.wrap (n : Int) = ((UInt8.ofNat (n % 256)).toNat : Int) := by
  simp only [IntKind.wrap, IntKind.bits, IntKind.signed, Bool.false_and, Bool.false_eq_true, if_false]
  simp
theorem octF_snoc (x : List UInt8) (c : UInt8) (n : Nat) : octF (x ++ [c]) n = 8 * octF x n + (c.toNat - 48) := by simp [octF]
theorem octF_le : ∀ (x : List UInt8) (n : Nat), x.length ≤ 3 → (∀ c ∈ x, digs 48 55 c = true) → n = 0 → octF x n ≤ 511 := by
  intro x n hx hd hn
  subst hn
  have hb : ∀ c ∈ x, c.toNat - 48 ≤ 7 := by
    intro c hc
    have := hd c hc
    unfold digs at this
    simp only [Bool.and_eq_true, decide_eq_true_eq] at this
    have e : (55 : UInt8).toNat = 55 := rfl
    omega
  match x, hx with
  | [], _ => simp [octF]
  | [a], _ => have := hb a (by simp); simp [octF]; omega
  | [a, b], _ => have := hb a (by simp); have := hb b (by simp); simp [octF]; omega
  | [a, b, c], _ => have := hb a (by simp); have := hb b (by simp); have := hb c (by simp); simp [octF]; omega

section
variable {w : World} {a : Nat} {l : List UInt8} {i : Nat} {d : Int}
theorem digits_at (h : Rd w a l i d) (hi : i ≤ l.length) (hl : l.length ≤ 1000000) (g : UInt8) (m : Nat) (hm : m ≤ 1000000) (g' m' : Int) (hg : (g.toNat : Int) = g') (hm' : (m : Int) = m') : Calls Try.prog 109 #[.pointer (some ⟨a, 0, none⟩), .int .u8 g', .int .i64 m'] w fun e w' =>
    e = .returned (.string (B ((l.drop i).take (runD l g m i - i)))) ∧ Rd w' a l (runD l g m i) d ∧ Kp (fun b => b = a) w w' := by
  subst hg; subst hm'; exact digits_any h hi hl g m hm

theorem escaped_any {s : S3} (h : Rd w a l (s.i + 1) d) (hs : s.f = 0) (hd : s.d = d) (hi : s.i + 1 ≤ l.length) (hl : l.length ≤ 1000000) : Calls Try.prog 106 #[.pointer (some ⟨a, 0, none⟩)] w fun e w' =>
    ((escape3 l s).2.f = 0 ∧ e = .returned (.int .u8 ((escape3 l s).1.toNat : Int)) ∧ Rd w' a l (escape3 l s).2.i d ∧ Kp (fun b => b = a) w w') ∨ ((escape3 l s).2.f ≠ 0 ∧ Pn w a e w') := by
  refine enter (n := 56) (args := [.pointer (some ⟨a, 0, none⟩)]) Try.func106 rfl rfl rfl (by simp) ?_
  have hb := h.blk.rdc
  have he := empty_iff (l := l) (i := s.i + 1)
  rcases Nat.lt_or_ge (s.i + 1) l.length with h1 | h1
  case inr =>
    rw [decide_eq_true h1] at he
    have hm : more3 l s.on = false := by unfold more3 S3.on; simp; omega
    repeat (first | refine qS ?_ | refine qB ?_ | refine qT rfl ?_ | refine qF rfl ?_ | ((first | refine qR rfl ?_ | refine qK ?_ | refine qE ?_ | refine qW ?_ | refine qM ?_); try simp -dsimp (maxSteps := 2000000) (disch := first | omega | (simp only [qZ] <;> omega) | fail) only [push_cast, ↓qP, ↓reduceIte, seval, hb, he]) | (refine qA ?_ ?_; (first | omega | (simp only [qL]; omega) | (simp only [qD] at *; omega))))
    refine Pan.mk (.inr ⟨?_, 4, rfl, by decide, by decide, Kp.refl _ _⟩)
    unfold escape3; rw [hm]
    exact fail_f _ (by decide)
  rw [decide_eq_false (by omega)] at he
  have hm : more3 l s.on = true := by unfold more3 S3.on; simp [hs]; omega
  obtain ⟨x, hx⟩ : ∃ x, x = (l.drop (s.i + 1)).take (runD l 55 3 (s.i + 1) - (s.i + 1)) := ⟨_, rfl⟩
  have hxd := run_digs l 55 3 (s.i + 1)
  have hN := runD_le l 55 3 (s.i + 1)
  rw [← hx] at hxd
  have hxl : x.length ≤ 3 := by rw [hx]; simp; omega
  repeat (first | refine qS ?_ | refine qB ?_ | refine qT rfl ?_ | refine qF rfl ?_ | ((first | refine qR rfl ?_ | refine qK ?_ | refine qE ?_ | refine qW ?_ | refine qM ?_); try simp -dsimp (maxSteps := 2000000) (disch := first | omega | (simp only [qZ] <;> omega) | fail) only [push_cast, ↓qP, ↓reduceIte, seval, hb, he]) | (refine qA ?_ ?_; (first | omega | (simp only [qL]; omega) | (simp only [qD] at *; omega))))
  refine CallV.of isCall_109 (digits_at h hi hl 55 3 (by decide) 55 3 rfl rfl) ?_
  rintro _ w1 ⟨rfl, h2, k2⟩
  rw [← hx]
  by_cases hc : digs 48 55 (byteAt l (s.i + 1)) = true
  · have hxe : x ≠ [] := by
      obtain ⟨_, e2⟩ := run_step (k := 2) h1 hc
      rw [hx, e2]; simp
    have hxb : (x == []) = false := by simpa using hxe
    have ho := oct_run l 3 (s.i + 1) 0
    rw [← hx] at ho
    have e3 : escape3 l s = (UInt8.ofNat (octF x 0 % 256), { s with i := runD l 55 3 (s.i + 1) }) := by
      unfold escape3; rw [hm, if_pos rfl, if_pos hc, ho]
    have hle := octF_le x 0 hxl hxd rfl
    rw [e3]
    clear hx ho e3 hN he hb hm hc
    refine Sm.out ?_
    repeat (first | refine qS ?_ | refine qB ?_ | refine qT rfl ?_ | refine qF rfl ?_ | ((first | refine qR rfl ?_ | refine qK ?_ | refine qE ?_ | refine qW ?_ | refine qM ?_); try simp -dsimp (maxSteps := 2000000) (disch := first | omega | (simp only [qZ] <;> omega) | fail) only [push_cast, ↓qP, ↓reduceIte, seval, hxb]) | (refine qA ?_ ?_; (first | omega | (simp only [qL]; omega) | (simp only [qD] at *; omega))))
    obtain ⟨q, hq⟩ : ∃ q, q = w1.heap.size := ⟨_, rfl⟩
    refine V_bytes 9 63 _ rfl se_63 ik_5 isStr_9 x rfl ?_
    intro cap w2 k3 hsz hr
    rw [← hq] at hsz hr
    have k4 : Kp (fun b => b = a) w w2 := k2.trans (k3.mono (fun _ _ h => h.elim))
    have h3 : Rd w2 a l (runD l 55 3 (s.i + 1)) d := h2.keep k3 id
    refine Sm.out ?_
    repeat (first | refine qS ?_ | refine qB ?_ | refine qT rfl ?_ | refine qF rfl ?_ | ((first | refine qR rfl ?_ | refine qK ?_ | refine qE ?_ | refine qW ?_ | refine qM ?_); try simp -dsimp (maxSteps := 2000000) (disch := first | omega | (simp only [qZ] <;> omega) | fail) only [push_cast, ↓qP, ↓reduceIte, seval]) | (refine qA ?_ ?_; (first | omega | (simp only [qL]; omega) | (simp only [qD] at *; omega))))
    rw [← hq]
    refine Wp.loop (α := Nat) (fun j F W => F 4 = .int .i64 (octF (x.take j) 0 : Nat) ∧ F 20 = .slice (some ⟨q, 0, none⟩) x.length cap ∧ F 21 = .int .i64 (x.length : Int) ∧ F 22 = .int .i64 (j : Int) ∧ j ≤ x.length ∧ W = w2) (fun j => x.length - j) 0
      ⟨by simp [upd, octF], by simp [upd], by simp [upd], by simp [upd], by omega, rfl⟩ ?_
    rintro j F W ⟨f4, f20, f21, f22, hj, rfl⟩
    rcases Nat.lt_or_ge j x.length with hlt | hge
    · have c1 : decide ((j : Int) < (x.length : Int)) = true := decide_eq_true (by omega)
      have r1 := hr j hlt
      have hxj := hxd x[j] (List.getElem_mem hlt)
      unfold digs at hxj
      simp only [Bool.and_eq_true, decide_eq_true_eq] at hxj
      have e5 : (55 : UInt8).toNat = 55 := rfl
      have e4 : (48 : UInt8).toNat = 48 := rfl
      have hle2 := octF_le (x.take j) 0 (by simp; omega) (fun c hc => hxd c (List.mem_of_mem_take hc)) rfl
      have hsn : octF (x.take (j + 1)) 0 = 8 * octF (x.take j) 0 + (x[j].toNat - 48) := by rw [List.take_succ_eq_append_getElem hlt, octF_snoc]
      unfold by8 at r1
      repeat (first | refine qS ?_ | refine qB ?_ | refine qT rfl ?_ | refine qF rfl ?_ | ((first | refine qR rfl ?_ | refine qK ?_ | refine qE ?_ | refine qW ?_ | refine qM ?_); try simp -dsimp (maxSteps := 2000000) (disch := first | omega | (simp only [qZ] <;> omega) | fail) only [push_cast, ↓qP, ↓reduceIte, seval, f4, f20, f21, f22, c1, r1]) | (refine qA ?_ ?_; (first | omega | (simp only [qL]; omega) | (simp only [qD] at *; omega))))
      exact Again.mk (j + 1) ⟨by simp [upd, hsn]; omega, by simp [upd, f20], by simp [upd, f21], by simp [upd], by omega, rfl⟩ (by omega)
    · obtain rfl : j = x.length := by omega
      have c1 : decide ((x.length : Int) < (x.length : Int)) = false := decide_eq_false (by omega)
      rw [List.take_length] at f4
      have hw8 := wrap8 (octF x 0)
      repeat (first | refine qS ?_ | refine qB ?_ | refine qT rfl ?_ | refine qF rfl ?_ | ((first | refine qR rfl ?_ | refine qK ?_ | refine qE ?_ | refine qW ?_ | refine qM ?_); try simp -dsimp (maxSteps := 2000000) (disch := first | omega | (simp only [qZ] <;> omega) | fail) only [push_cast, ↓qP, ↓reduceIte, seval, f4, f20, f21, f22, c1, hw8]) | (refine qA ?_ ?_; (first | omega | (simp only [qL]; omega) | (simp only [qD] at *; omega))))
      exact Ret.mk (.inl ⟨hs, rfl, h3, k4⟩)
  · have hst : runD l 55 3 (s.i + 1) = s.i + 1 := run_stop (by rw [decide_eq_true h1]; simpa using hc)
    have hxe : x = [] := by rw [hx, hst]; simp
    subst hxe
    rw [hst] at h2
    have hb2 := h2.blk.rdc
    have hz2 := h2.blk.fz
    have hg := getD_drop l (s.i + 1) 0
    have hll : (l.drop (s.i + 1)).length = l.length - (s.i + 1) := by simp
    have hlt2 := h2.lt
    have e3 : escape3 l s = (escMap (byteAt l (s.i + 1)), s.on 2) := by
      unfold escape3; rw [hm, if_pos rfl, if_neg hc]
    rw [e3]
    have htt : ((l.drop (s.i + 2)).take (l.length - (s.i + 1) - 1)) = l.drop (s.i + 2) := List.take_of_length_le (by simp; omega)
    have hdd : (l.drop (s.i + 1)).drop 1 = l.drop (s.i + 2) := by rw [List.drop_drop]
    have hli : ((l.length : Int) - ((s.i : Int) + 1)).toNat = l.length - (s.i + 1) := by omega
    refine Sm.out ?_
    repeat (first | refine qS ?_ | refine qB ?_ | refine qT rfl ?_ | refine qF rfl ?_ | ((first | refine qR rfl ?_ | refine qK ?_ | refine qE ?_ | refine qW ?_ | refine qM ?_); try simp -dsimp (maxSteps := 2000000) (disch := first | omega | (simp only [qZ] <;> omega) | fail) only [push_cast, ↓qP, ↓reduceIte, seval, hb2, hz2, hg, hll, hli, hdd, htt]) | (refine qA ?_ ?_; (first | omega | (simp only [qL]; omega) | (simp only [qD] at *; omega))))
    refine CallV.of isCall_113 (Try.strings_IndexByte _ _ _) ?_
    rintro _ _ ⟨rfl, rfl⟩
    have hcc : (((byteAt l (s.i + 1)).toNat : Int)).toNat.toUInt8 = byteAt l (s.i + 1) := by simp
    rw [hcc, B_toList]
    have kk : Kp (fun b => b = a) w (w1.setCell ⟨a, 0, none⟩ (.string (B (l.drop (s.i + 2))))) := k2.setCell (fun _ => rfl) _
    have hr : Rd (w1.setCell ⟨a, 0, none⟩ (.string (B (l.drop (s.i + 2))))) a l (s.i + 2) d := h2.blk.set 0 _
    rcases esc_idx' (byteAt l (s.i + 1)) with ⟨g1, g2, g3⟩ | ⟨g1, g2⟩
    · generalize Lib.indexByte [97, 98, 116, 110, 118, 102, 114] (byteAt l (s.i + 1)) = k at *
      have c1 : decide (k ≥ 0) = true := decide_eq_true g1
      refine Sm.out ?_
      repeat (first | refine qS ?_ | refine qB ?_ | refine qT rfl ?_ | refine qF rfl ?_ | ((first | refine qR rfl ?_ | refine qK ?_ | refine qE ?_ | refine qW ?_ | refine qM ?_); try simp -dsimp (maxSteps := 2000000) (disch := first | omega | (simp only [qZ] <;> omega) | fail) only [push_cast, ↓qP, ↓reduceIte, seval, c1]) | (refine qA ?_ ?_; (first | omega | (simp only [qL]; omega) | (simp only [qD] at *; omega))))
      exact Ret.mk (.inl ⟨hs, by rw [g3], hr, kk⟩)
    · rw [g1, g2]
      have c1 : decide ((-1 : Int) ≥ 0) = false := rfl
      refine Sm.out ?_
      repeat (first | refine qS ?_ | refine qB ?_ | refine qT rfl ?_ | refine qF rfl ?_ | ((first | refine qR rfl ?_ | refine qK ?_ | refine qE ?_ | refine qW ?_ | refine qM ?_); try simp -dsimp (maxSteps := 2000000) (disch := first | omega | (simp only [qZ] <;> omega) | fail) only [push_cast, ↓qP, ↓reduceIte, seval, c1]) | (refine qA ?_ ?_; (first | omega | (simp only [qL]; omega) | (simp only [qD] at *; omega))))
      exact Ret.mk (.inl ⟨hs, rfl, hr, kk⟩)
end
end Go.Proofs.Ytddichibegppjaa

/- The program's reader: count, interval, repeat. -/
namespace Go.Proofs.Ytddichibegppjaa
open Go Go.VC Go.RowKit

def decF (x : List UInt8) (n : Nat) : Nat := x.foldl (fun n c => 10 * n + (c.toNat - 48)) n
theorem decF_ge : ∀ (x : List UInt8) (n : Nat), n ≤ decF x n
  | [], n => Nat.le_refl _
  | c :: x, n => by
    have := decF_ge x (10 * n + (c.toNat - 48))
    simp only [decF, List.foldl_cons] at this ⊢
    omega
theorem decF_app (x y : List UInt8) (n : Nat) : decF (x ++ y) n = decF y (decF x n) := by simp [decF]
theorem decF_take (x : List UInt8) (j : Nat) : decF (x.take j) 0 ≤ decF x 0 := by
  conv => rhs; rw [← List.take_append_drop j x]
  rw [decF_app]; exact decF_ge _ _
theorem decF_snoc (x : List UInt8) (c : UInt8) (n : Nat) : decF (x ++ [c]) n = 10 * decF x n + (c.toNat - 48) := by simp [decF]
theorem dig_range {g c : UInt8} (h : digs 48 g c = true) : 48 ≤ c.toNat ∧ c.toNat ≤ g.toNat := by
  unfold digs at h
  simp only [Bool.and_eq_true, decide_eq_true_eq] at h
  exact h
theorem num_run (l : List UInt8) : ∀ (k i : Nat) (n : Nat) (b : Bool), num3 l k i (min n 1000 : Nat) b =
    ((((min (decF ((l.drop i).take (runD l 57 k i - i)) n) 1000 : Nat) : Int), b || decide (i < runD l 57 k i)), runD l 57 k i)
  | 0, i, n, b => by simp [num3, runD, decF]
  | k + 1, i, n, b => by
    unfold num3
    by_cases h : (decide (i < l.length) && digs 48 57 (byteAt l i)) = true
    · rw [if_pos h]
      simp only [Bool.and_eq_true, decide_eq_true_eq] at h
      obtain ⟨e1, e2⟩ := run_step (k := k) h.1 h.2
      have hr := dig_range h.2
      have e57 : (57 : UInt8).toNat = 57 := rfl
      have e3 : (min (10 * ((min n 1000 : Nat) : Int) + (((byteAt l i).toNat : Int) - 48)) 1000) = ((min (10 * n + ((byteAt l i).toNat - 48)) 1000 : Nat) : Int) := by omega
      rw [e3, num_run l k (i + 1)]
      have hle := runD_le l 57 k (i + 1)
      rw [e2, e1, decide_eq_true (by omega : i < runD l 57 k (i + 1))]
      simp [decF]
    · rw [if_neg h, run_stop (by simpa using h)]
      simp [decF]
theorem run_fuel (l : List UInt8) (g : UInt8) : ∀ (k i : Nat), l.length ≤ i + k → runD l g k i = runD l g (l.length - i) i
  | 0, i, h => by rw [show l.length - i = 0 by omega]
  | k + 1, i, h => by
    by_cases hc : (decide (i < l.length) && digs 48 g (byteAt l i)) = true
    · have hc' := hc
      simp only [Bool.and_eq_true, decide_eq_true_eq] at hc'
      have e1 := (run_step (k := k) hc'.1 hc'.2).1
      have e2 := (run_step (k := l.length - (i + 1)) hc'.1 hc'.2).1
      rw [e1, show l.length - i = (l.length - (i + 1)) + 1 by omega, e2]
      exact run_fuel l g k (i + 1) (by omega)
    · rw [run_stop (by simpa using hc), run_stop (by simpa using hc)]
/-- The digits that stand at a place. -/
def dE (l : List UInt8) (i : Nat) : Nat := runD l 57 (l.length - i) i
def dX (l : List UInt8) (i : Nat) : List UInt8 := (l.drop i).take (dE l i - i)
theorem digit_eq (l : List UInt8) (s : S3) : digit3 l s = ((((min (decF (dX l s.i) 0) 1000 : Nat) : Int), decide (s.i < dE l s.i)), { s with i := dE l s.i }) := by
  unfold digit3
  have := num_run l l.length s.i 0 false
  rw [Nat.zero_min, Bool.false_or, run_fuel l 57 l.length s.i (by omega)] at this
  have e : num3 l l.length s.i 0 false = _ := this
  rw [e]
  rfl
theorem dE_le (l : List UInt8) (i : Nat) : i ≤ dE l i ∧ dE l i ≤ max i l.length := by have := runD_le l 57 (l.length - i) i; unfold dE; omega
theorem dX_digs (l : List UInt8) (i : Nat) : ∀ c ∈ dX l i, digs 48 57 c = true := fun c h => run_digs l 57 _ i c h
theorem dX_len (l : List UInt8) (i : Nat) : (dX l i).length ≤ l.length := by unfold dX; simp; omega
theorem dX_nil (l : List UInt8) (i : Nat) (hi : i ≤ l.length) : (dX l i == []) = decide (dE l i ≤ i) := by
  have := dE_le l i
  rw [Bool.eq_iff_iff, beq_iff_eq, decide_eq_true_eq]
  unfold dX
  rw [List.take_eq_nil_iff, List.drop_eq_nil_iff]
  omega

theorem count_any (w : World) (x : List UInt8) (hx : x.length ≤ 1000000) (hd : ∀ c ∈ x, digs 48 57 c = true) : Calls Try.prog 110 #[.string (B x)] w fun e w' =>
    (decF x 0 ≤ 255 ∧ e = .returned (.int .i64 (decF x 0 : Nat)) ∧ Kp (fun _ => False) w w') ∨ (¬ decF x 0 ≤ 255 ∧ e = .panicked (flt 3) ∧ Kp (fun _ => False) w w') := by
  refine enter (n := 24) (args := [.string (B x)]) Try.func110 rfl rfl rfl (by simp) ?_
  repeat (first | refine qS ?_ | refine qB ?_ | refine qT rfl ?_ | refine qF rfl ?_ | ((first | refine qR rfl ?_ | refine qK ?_ | refine qE ?_ | refine qW ?_ | refine qM ?_); try simp -dsimp (maxSteps := 2000000) (disch := first | omega | (simp only [qZ] <;> omega) | fail) only [push_cast, ↓qP, ↓reduceIte, seval]) | (refine qA ?_ ?_; (first | omega | (simp only [qL]; omega) | (simp only [qD] at *; omega))))
  obtain ⟨q, hq⟩ : ∃ q, q = w.heap.size := ⟨_, rfl⟩
  refine V_bytes 9 63 _ rfl se_63 ik_5 isStr_9 x rfl ?_
  intro cap w2 k3 hsz hr
  rw [← hq] at hsz hr
  refine Sm.out ?_
  repeat (first | refine qS ?_ | refine qB ?_ | refine qT rfl ?_ | refine qF rfl ?_ | ((first | refine qR rfl ?_ | refine qK ?_ | refine qE ?_ | refine qW ?_ | refine qM ?_); try simp -dsimp (maxSteps := 2000000) (disch := first | omega | (simp only [qZ] <;> omega) | fail) only [push_cast, ↓qP, ↓reduceIte, seval]) | (refine qA ?_ ?_; (first | omega | (simp only [qL]; omega) | (simp only [qD] at *; omega))))
  rw [← hq]
  refine Wp.loop (α := Nat) (fun j F W => F 3 = .int .i64 (decF (x.take j) 0 : Nat) ∧ F 7 = .slice (some ⟨q, 0, none⟩) x.length cap ∧ F 8 = .int .i64 (x.length : Int) ∧ F 9 = .int .i64 (j : Int) ∧ j ≤ x.length ∧ decF (x.take j) 0 ≤ 255 ∧ W = w2) (fun j => x.length - j) 0
    ⟨by simp [upd, decF], by simp [upd], by simp [upd], by simp [upd], by omega, by simp [decF], rfl⟩ ?_
  rintro j F W ⟨f3, f7, f8, f9, hj, hle, rfl⟩
  rcases Nat.lt_or_ge j x.length with hlt | hge
  · have c1 : decide ((j : Int) < (x.length : Int)) = true := decide_eq_true (by omega)
    have r1 := hr j hlt
    have hxj := dig_range (hd x[j] (List.getElem_mem hlt))
    have e5 : (57 : UInt8).toNat = 57 := rfl
    have hsn : decF (x.take (j + 1)) 0 = 10 * decF (x.take j) 0 + (x[j].toNat - 48) := by rw [List.take_succ_eq_append_getElem hlt, decF_snoc]
    have hmo := decF_take x (j + 1)
    have hv : ((decF (x.take j) 0 : Nat) : Int) * 10 + (((x[j].toNat : Nat) : Int) - 48) = (decF (x.take (j + 1)) 0 : Nat) := by omega
    generalize hv1 : decF (x.take (j + 1)) 0 = v1 at *
    unfold by8 at r1
    rcases Nat.lt_or_ge 255 v1 with h1 | h1
    · have c2 : decide ((v1 : Int) > 255) = true := decide_eq_true (by omega)
      repeat (first | refine qS ?_ | refine qB ?_ | refine qT rfl ?_ | refine qF rfl ?_ | ((first | refine qR rfl ?_ | refine qK ?_ | refine qE ?_ | refine qW ?_ | refine qM ?_); try simp -dsimp (maxSteps := 2000000) (disch := first | omega | (simp only [qZ] <;> omega) | fail) only [push_cast, ↓qP, ↓reduceIte, seval, f3, f7, f8, f9, c1, r1, hv, c2]) | (refine qA ?_ ?_; (first | omega | (simp only [qL]; omega) | (simp only [qD] at *; omega))))
      exact Pan.mk (.inr ⟨by omega, rfl, k3⟩)
    · have c2 : decide ((v1 : Int) > 255) = false := decide_eq_false (by omega)
      repeat (first | refine qS ?_ | refine qB ?_ | refine qT rfl ?_ | refine qF rfl ?_ | ((first | refine qR rfl ?_ | refine qK ?_ | refine qE ?_ | refine qW ?_ | refine qM ?_); try simp -dsimp (maxSteps := 2000000) (disch := first | omega | (simp only [qZ] <;> omega) | fail) only [push_cast, ↓qP, ↓reduceIte, seval, f3, f7, f8, f9, c1, r1, hv, c2]) | (refine qA ?_ ?_; (first | omega | (simp only [qL]; omega) | (simp only [qD] at *; omega))))
      exact Again.mk (j + 1) ⟨by simp [upd, hv1], by simp [upd, f7], by simp [upd, f8], by simp [upd], by omega, by omega, rfl⟩ (by omega)
  · obtain rfl : j = x.length := by omega
    have c1 : decide ((x.length : Int) < (x.length : Int)) = false := decide_eq_false (by omega)
    rw [List.take_length] at f3 hle
    repeat (first | refine qS ?_ | refine qB ?_ | refine qT rfl ?_ | refine qF rfl ?_ | ((first | refine qR rfl ?_ | refine qK ?_ | refine qE ?_ | refine qW ?_ | refine qM ?_); try simp -dsimp (maxSteps := 2000000) (disch := first | omega | (simp only [qZ] <;> omega) | fail) only [push_cast, ↓qP, ↓reduceIte, seval, f3, f7, f8, f9, c1]) | (refine qA ?_ ?_; (first | omega | (simp only [qL]; omega) | (simp only [qD] at *; omega))))
    exact Ret.mk (.inl ⟨hle, rfl, k3⟩)
end Go.Proofs.Ytddichibegppjaa

/- The program's reader: interval, repeat. -/
namespace Go.Proofs.Ytddichibegppjaa
open Go Go.VC Go.RowKit

def ivTo (l : List UInt8) (i : Nat) : List UInt8 := if hasAt l (dE l i) 44 then dX l (dE l i + 1) else dX l i
def ivEnd (l : List UInt8) (i : Nat) : Nat := if hasAt l (dE l i) 44 then dE l (dE l i + 1) else dE l i
def ivHi (l : List UInt8) (i : Nat) : Int := if ivTo l i = [] then -1 else (decF (ivTo l i) 0 : Nat)
def ivOk (l : List UInt8) (i : Nat) : Prop := hasAt l (ivEnd l i) 125 = true ∧ decF (dX l i) 0 ≤ 255 ∧ decF (ivTo l i) 0 ≤ 255 ∧ (ivTo l i = [] ∨ decF (dX l i) 0 ≤ decF (ivTo l i) 0)
theorem hasAt_lt {l : List UInt8} {i : Nat} {c : UInt8} (h : hasAt l i c = true) : i < l.length := by
  unfold hasAt at h; simp only [Bool.and_eq_true, decide_eq_true_eq] at h; exact h.1
theorem ivEnd_le (l : List UInt8) (i : Nat) (hi : i ≤ l.length) : ivEnd l i ≤ l.length := by
  unfold ivEnd
  have := dE_le l i
  split
  · rename_i h
    have := hasAt_lt h
    have := dE_le l (dE l i + 1)
    omega
  · omega
theorem ivTo_digs (l : List UInt8) (i : Nat) : ∀ c ∈ ivTo l i, digs 48 57 c = true := by
  unfold ivTo; split <;> exact dX_digs l _
theorem ivTo_len (l : List UInt8) (i : Nat) : (ivTo l i).length ≤ l.length := by
  unfold ivTo; split <;> exact dX_len l _

section
variable {w : World} {a : Nat} {l : List UInt8} {i : Nat} {d : Int}
theorem flt_any {w' : World} (k : Kp (fun b => b = a) w w') : Pn w a (.panicked (flt 3)) w' := ⟨3, rfl, by decide, by decide, k⟩

theorem interval_any (h : Rd w a l i d) (hi : i ≤ l.length) (hl : l.length ≤ 1000000) : Calls Try.prog 102 #[.pointer (some ⟨a, 0, none⟩)] w fun e w' =>
    (ivOk l i ∧ e = .returned (.tuple #[.int .i64 (decF (dX l i) 0 : Nat), .int .i64 (ivHi l i)]) ∧ Rd w' a l (ivEnd l i + 1) d ∧ Kp (fun b => b = a) w w') ∨ (¬ ivOk l i ∧ Pn w a e w') := by
  refine enter (n := 48) (args := [.pointer (some ⟨a, 0, none⟩)]) Try.func102 rfl rfl rfl (by simp) ?_
  have hb := h.blk.rdc
  have hll : (l.drop i).length = l.length - i := by simp
  have hN := dE_le l i
  repeat (first | refine qS ?_ | refine qB ?_ | refine qT rfl ?_ | refine qF rfl ?_ | ((first | refine qR rfl ?_ | refine qK ?_ | refine qE ?_ | refine qW ?_ | refine qM ?_); try simp -dsimp (maxSteps := 2000000) (disch := first | omega | (simp only [qZ] <;> omega) | fail) only [push_cast, ↓qP, ↓reduceIte, seval, hb, hll]) | (refine qA ?_ ?_; (first | omega | (simp only [qL]; omega) | (simp only [qD] at *; omega))))
  refine CallV.of isCall_109 (digits_at h hi hl 57 (l.length - i) (by omega) 57 _ rfl (by omega)) ?_
  rintro _ w1 ⟨rfl, h1, k1⟩
  refine Sm.out ?_
  repeat (first | ((fail_if_success (first | refine qY (n := 3) ?_ | refine qV (n := 3) ?_)); refine qS ?_) | refine qB ?_ | refine qT rfl ?_ | refine qF rfl ?_ | ((first | refine qR rfl ?_ | refine qK ?_ | refine qE ?_ | refine qW ?_ | refine qM ?_); try simp -dsimp (maxSteps := 2000000) (disch := first | omega | (simp only [qZ] <;> omega) | fail) only [push_cast, ↓qP, ↓reduceIte, seval]) | (refine qA ?_ ?_; (first | omega | (simp only [qL]; omega) | (simp only [qD] at *; omega))))
  refine Wp.cut (fun F W => F 0 = .pointer (some ⟨a, 0, none⟩) ∧ F 4 = .string (B (dX l i)) ∧ F 5 = .string (B (ivTo l i)) ∧ Rd W a l (ivEnd l i) d ∧ Kp (fun b => b = a) w W) ?_ ?_
  · have h1' : Rd w1 a l (dE l i) d := h1
    have hlt := h1'.lt
    repeat (first | refine qS ?_ | refine qB ?_ | refine qT rfl ?_ | refine qF rfl ?_ | ((first | refine qR rfl ?_ | refine qK ?_ | refine qE ?_ | refine qW ?_ | refine qM ?_); try simp -dsimp (maxSteps := 2000000) (disch := first | omega | (simp only [qZ] <;> omega) | fail) only [push_cast, ↓qP, ↓reduceIte, seval]) | (refine qA ?_ ?_; (first | omega | (simp only [qL]; omega) | (simp only [qD] at *; omega))))
    refine CallV.of isCall_89 (take_one h1' 44) ?_
    rintro _ w2 ⟨rfl, h2, k2⟩
    cases hc : hasAt l (dE l i) 44 with
    | false =>
      rw [hc] at h2
      have e1 : ivTo l i = dX l i := by unfold ivTo; rw [hc]; rfl
      have e2 : ivEnd l i = dE l i := by unfold ivEnd; rw [hc]; rfl
      refine Sm.out ?_
      repeat (first | refine qS ?_ | refine qB ?_ | refine qT rfl ?_ | refine qF rfl ?_ | ((first | refine qR rfl ?_ | refine qK ?_ | refine qE ?_ | refine qW ?_ | refine qM ?_); try simp -dsimp (maxSteps := 2000000) (disch := first | omega | (simp only [qZ] <;> omega) | fail) only [push_cast, ↓qP, ↓reduceIte, seval]) | (refine qA ?_ ?_; (first | omega | (simp only [qL]; omega) | (simp only [qD] at *; omega))))
      exact Mid.mk ⟨by simp [upd, arg], by simp [upd]; rfl, by simp [upd, e1]; rfl, by rw [e2]; exact h2, k1.trans k2⟩
    | true =>
      rw [hc] at h2
      have h2' : Rd w2 a l (dE l i + 1) d := h2
      have hcl := hasAt_lt hc
      have e1 : ivTo l i = dX l (dE l i + 1) := by unfold ivTo; rw [hc]; rfl
      have e2 : ivEnd l i = dE l (dE l i + 1) := by unfold ivEnd; rw [hc]; rfl
      have hb2 := h2'.blk.rdc
      have hll2 : (l.drop (dE l i + 1)).length = l.length - (dE l i + 1) := by simp
      refine Sm.out ?_
      repeat (first | refine qS ?_ | refine qB ?_ | refine qT rfl ?_ | refine qF rfl ?_ | ((first | refine qR rfl ?_ | refine qK ?_ | refine qE ?_ | refine qW ?_ | refine qM ?_); try simp -dsimp (maxSteps := 2000000) (disch := first | omega | (simp only [qZ] <;> omega) | fail) only [push_cast, ↓qP, ↓reduceIte, seval, hb2, hll2]) | (refine qA ?_ ?_; (first | omega | (simp only [qL]; omega) | (simp only [qD] at *; omega))))
      refine CallV.of isCall_109 (digits_at h2' (by omega) hl 57 (l.length - (dE l i + 1)) (by omega) 57 _ rfl (by omega)) ?_
      rintro _ w3 ⟨rfl, h3, k3⟩
      refine Sm.out ?_
      repeat (first | refine qS ?_ | refine qB ?_ | refine qT rfl ?_ | refine qF rfl ?_ | ((first | refine qR rfl ?_ | refine qK ?_ | refine qE ?_ | refine qW ?_ | refine qM ?_); try simp -dsimp (maxSteps := 2000000) (disch := first | omega | (simp only [qZ] <;> omega) | fail) only [push_cast, ↓qP, ↓reduceIte, seval]) | (refine qA ?_ ?_; (first | omega | (simp only [qL]; omega) | (simp only [qD] at *; omega))))
      exact Mid.mk ⟨by simp [upd, arg], by simp [upd]; rfl, by simp [upd, e1]; rfl, by rw [e2]; exact h3, (k1.trans k2).trans k3⟩
  clear h hb hll hN h1 k1
  rintro F W ⟨f0, f4, f5, h1, k1⟩
  have hE := ivEnd_le l i hi
  repeat (first | refine qS ?_ | refine qB ?_ | refine qT rfl ?_ | refine qF rfl ?_ | ((first | refine qR rfl ?_ | refine qK ?_ | refine qE ?_ | refine qW ?_ | refine qM ?_); try simp -dsimp (maxSteps := 2000000) (disch := first | omega | (simp only [qZ] <;> omega) | fail) only [push_cast, ↓qP, ↓reduceIte, seval, f0]) | (refine qA ?_ ?_; (first | omega | (simp only [qL]; omega) | (simp only [qD] at *; omega))))
  refine CallV.of isCall_89 (take_one h1 125) ?_
  rintro _ w2 ⟨rfl, h2, k2⟩
  refine Sm.out ?_
  repeat (first | refine qS ?_ | refine qB ?_ | refine qT rfl ?_ | refine qF rfl ?_ | ((first | refine qR rfl ?_ | refine qK ?_ | refine qE ?_ | refine qW ?_ | refine qM ?_); try simp -dsimp (maxSteps := 2000000) (disch := first | omega | (simp only [qZ] <;> omega) | fail) only [push_cast, ↓qP, ↓reduceIte, seval, f4]) | (refine qA ?_ ?_; (first | omega | (simp only [qL]; omega) | (simp only [qD] at *; omega))))
  refine CallV.of isCall_110 (count_any w2 (dX l i) (by have := dX_len l i; omega) (dX_digs l i)) ?_
  rintro e w3 (⟨q1, rfl, k3⟩ | ⟨q1, rfl, k3⟩)
  case inr =>
    refine Sm.out ?_
    repeat (first | refine qS ?_ | refine qB ?_ | refine qT rfl ?_ | refine qF rfl ?_ | ((first | refine qR rfl ?_ | refine qK ?_ | refine qE ?_ | refine qW ?_ | refine qM ?_); try simp -dsimp (maxSteps := 2000000) (disch := first | omega | (simp only [qZ] <;> omega) | fail) only [push_cast, ↓qP, ↓reduceIte, seval]) | (refine qA ?_ ?_; (first | omega | (simp only [qL]; omega) | (simp only [qD] at *; omega))))
    exact Pan.mk (.inr ⟨fun h => q1 h.2.1, flt_any ((k1.trans k2).trans (k3.mono fun _ _ h => h.elim))⟩)
  have h3 : Rd w3 a l _ d := h2.keep k3 id
  have k4 : Kp (fun b => b = a) w w3 := (k1.trans k2).trans (k3.mono fun _ _ h => h.elim)
  clear h1 h2 k1 k2 k3
  obtain ⟨lo, hlo⟩ : ∃ lo, lo = decF (dX l i) 0 := ⟨_, rfl⟩
  rw [← hlo] at q1
  have hok : ivOk l i ↔ (hasAt l (ivEnd l i) 125 = true ∧ lo ≤ 255 ∧ decF (ivTo l i) 0 ≤ 255 ∧ (ivTo l i = [] ∨ lo ≤ decF (ivTo l i) 0)) := by rw [hlo]; exact Iff.rfl
  rw [← hlo]
  by_cases ht : ivTo l i = []
  · have hte : (ivTo l i == []) = true := by rw [ht]; rfl
    have e3 : ivHi l i = -1 := by unfold ivHi; rw [if_pos ht]
    have z : decF [] 0 = 0 := rfl
    rw [ht, z] at hok
    rw [hok, e3]
    refine Sm.out ?_
    repeat (first | refine qS ?_ | refine qB ?_ | refine qT rfl ?_ | refine qF rfl ?_ | ((first | refine qR rfl ?_ | refine qK ?_ | refine qE ?_ | refine qW ?_ | refine qM ?_); try simp -dsimp (maxSteps := 2000000) (disch := first | omega | (simp only [qZ] <;> omega) | fail) only [push_cast, ↓qP, ↓reduceIte, seval, f4, f5, hte]) | (refine qA ?_ ?_; (first | omega | (simp only [qL]; omega) | (simp only [qD] at *; omega))))
    cases hc : hasAt l (ivEnd l i) 125 with
    | false =>
      refine Sm.out ?_
      repeat (first | refine qS ?_ | refine qB ?_ | refine qT rfl ?_ | refine qF rfl ?_ | ((first | refine qR rfl ?_ | refine qK ?_ | refine qE ?_ | refine qW ?_ | refine qM ?_); try simp -dsimp (maxSteps := 2000000) (disch := first | omega | (simp only [qZ] <;> omega) | fail) only [push_cast, ↓qP, ↓reduceIte, seval]) | (refine qA ?_ ?_; (first | omega | (simp only [qL]; omega) | (simp only [qD] at *; omega))))
      exact Pan.mk (.inr ⟨by simp, flt_any k4⟩)
    | true =>
      rw [hc] at h3
      have c1 : decide ((-1 : Int) ≥ 0) = false := rfl
      refine Sm.out ?_
      repeat (first | refine qS ?_ | refine qB ?_ | refine qT rfl ?_ | refine qF rfl ?_ | ((first | refine qR rfl ?_ | refine qK ?_ | refine qE ?_ | refine qW ?_ | refine qM ?_); try simp -dsimp (maxSteps := 2000000) (disch := first | omega | (simp only [qZ] <;> omega) | fail) only [push_cast, ↓qP, ↓reduceIte, seval, c1]) | (refine qA ?_ ?_; (first | omega | (simp only [qL]; omega) | (simp only [qD] at *; omega))))
      exact Ret.mk (.inl ⟨⟨rfl, q1, by omega, .inl rfl⟩, rfl, h3, k4⟩)
  · have hte : (ivTo l i == []) = false := by simpa using ht
    have e3 : ivHi l i = (decF (ivTo l i) 0 : Nat) := by unfold ivHi; rw [if_neg ht]
    rw [hok, e3]
    refine Sm.out ?_
    repeat (first | refine qS ?_ | refine qB ?_ | refine qT rfl ?_ | refine qF rfl ?_ | ((first | refine qR rfl ?_ | refine qK ?_ | refine qE ?_ | refine qW ?_ | refine qM ?_); try simp -dsimp (maxSteps := 2000000) (disch := first | omega | (simp only [qZ] <;> omega) | fail) only [push_cast, ↓qP, ↓reduceIte, seval, f4, f5, hte]) | (refine qA ?_ ?_; (first | omega | (simp only [qL]; omega) | (simp only [qD] at *; omega))))
    refine CallV.of isCall_110 (count_any w3 (ivTo l i) (by have := ivTo_len l i; omega) (ivTo_digs l i)) ?_
    rintro e w4 (⟨q2, rfl, k5⟩ | ⟨q2, rfl, k5⟩)
    case inr =>
      refine Sm.out ?_
      repeat (first | refine qS ?_ | refine qB ?_ | refine qT rfl ?_ | refine qF rfl ?_ | ((first | refine qR rfl ?_ | refine qK ?_ | refine qE ?_ | refine qW ?_ | refine qM ?_); try simp -dsimp (maxSteps := 2000000) (disch := first | omega | (simp only [qZ] <;> omega) | fail) only [push_cast, ↓qP, ↓reduceIte, seval]) | (refine qA ?_ ?_; (first | omega | (simp only [qL]; omega) | (simp only [qD] at *; omega))))
      exact Pan.mk (.inr ⟨fun h => q2 h.2.2.1, flt_any (k4.trans (k5.mono fun _ _ h => h.elim))⟩)
    have h4 : Rd w4 a l _ d := h3.keep k5 id
    have k6 : Kp (fun b => b = a) w w4 := k4.trans (k5.mono fun _ _ h => h.elim)
    obtain ⟨hi', hhi⟩ : ∃ hi', hi' = decF (ivTo l i) 0 := ⟨_, rfl⟩
    rw [← hhi] at q2 ⊢
    cases hc : hasAt l (ivEnd l i) 125 with
    | false =>
      refine Sm.out ?_
      repeat (first | refine qS ?_ | refine qB ?_ | refine qT rfl ?_ | refine qF rfl ?_ | ((first | refine qR rfl ?_ | refine qK ?_ | refine qE ?_ | refine qW ?_ | refine qM ?_); try simp -dsimp (maxSteps := 2000000) (disch := first | omega | (simp only [qZ] <;> omega) | fail) only [push_cast, ↓qP, ↓reduceIte, seval]) | (refine qA ?_ ?_; (first | omega | (simp only [qL]; omega) | (simp only [qD] at *; omega))))
      exact Pan.mk (.inr ⟨by simp, flt_any k6⟩)
    | true =>
      rw [hc] at h4
      have c1 : decide ((hi' : Int) ≥ 0) = true := decide_eq_true (by omega)
      rcases Nat.lt_or_ge hi' lo with hq | hq
      · have c2 : decide ((lo : Int) > (hi' : Int)) = true := decide_eq_true (by omega)
        refine Sm.out ?_
        repeat (first | refine qS ?_ | refine qB ?_ | refine qT rfl ?_ | refine qF rfl ?_ | ((first | refine qR rfl ?_ | refine qK ?_ | refine qE ?_ | refine qW ?_ | refine qM ?_); try simp -dsimp (maxSteps := 2000000) (disch := first | omega | (simp only [qZ] <;> omega) | fail) only [push_cast, ↓qP, ↓reduceIte, seval, c1, c2]) | (refine qA ?_ ?_; (first | omega | (simp only [qL]; omega) | (simp only [qD] at *; omega))))
        exact Pan.mk (.inr ⟨fun h => by rcases h.2.2.2 with h | h; exact ht h; omega, flt_any k6⟩)
      · have c2 : decide ((lo : Int) > (hi' : Int)) = false := decide_eq_false (by omega)
        refine Sm.out ?_
        repeat (first | refine qS ?_ | refine qB ?_ | refine qT rfl ?_ | refine qF rfl ?_ | ((first | refine qR rfl ?_ | refine qK ?_ | refine qE ?_ | refine qW ?_ | refine qM ?_); try simp -dsimp (maxSteps := 2000000) (disch := first | omega | (simp only [qZ] <;> omega) | fail) only [push_cast, ↓qP, ↓reduceIte, seval, c1, c2]) | (refine qA ?_ ?_; (first | omega | (simp only [qL]; omega) | (simp only [qD] at *; omega))))
        exact Ret.mk (.inl ⟨⟨rfl, q1, q2, .inr hq⟩, rfl, h4, k6⟩)
end
end Go.Proofs.Ytddichibegppjaa

/- The program's reader: repeat. -/
namespace Go.Proofs.Ytddichibegppjaa
open Go Go.VC Go.RowKit

theorem u8e (a b : UInt8) : ((a.toNat : Int) == (b.toNat : Int)) = (a == b) := by
  rw [Bool.eq_iff_iff, beq_iff_eq, beq_iff_eq]
  exact ⟨fun h => UInt8.toNat_inj.1 (by omega), fun h => by rw [h]⟩
theorem hasAt_eq {l : List UInt8} {i : Nat} (c : UInt8) (h : i < l.length) : hasAt l i c = (byteAt l i == c) := by unfold hasAt; rw [decide_eq_true h, Bool.true_and]
/-- The reference's interval. -/
theorem repeat_iv {l : List UInt8} {s : S3} (hs : s.f = 0) (hi : s.i < l.length) (hc : byteAt l s.i = 123) (hd : s.i + 1 < l.length) (hg : digs 48 57 (byteAt l (s.i + 1)) = true) :
    (ivOk l (s.i + 1) → repeat3 l s = ((((decF (dX l (s.i + 1)) 0 : Nat) : Int), ivHi l (s.i + 1), true), { s with i := ivEnd l (s.i + 1) + 1 })) ∧ (¬ ivOk l (s.i + 1) → (repeat3 l s).2.f ≠ 0) := by
  have hm : more3 l s = true := by unfold more3; simp [hs]; omega
  have hx : dX l (s.i + 1) ≠ [] := by
    have := dX_nil l (s.i + 1) (by omega)
    have h2 : s.i + 1 < dE l (s.i + 1) := by
      unfold dE
      rw [show l.length - (s.i + 1) = (l.length - (s.i + 2)) + 1 by omega, (run_step (k := l.length - (s.i + 2)) hd hg).1]
      have := runD_le l 57 (l.length - (s.i + 2)) (s.i + 1 + 1)
      omega
    rw [decide_eq_false (by omega)] at this
    simpa using this
  have e1 := digit_eq l s.on
  have hon : s.on.i = s.i + 1 := rfl
  rw [hon] at e1
  obtain ⟨N, hN⟩ : ∃ N, N = dE l (s.i + 1) := ⟨_, rfl⟩
  have hNl : N ≤ l.length := by have := dE_le l (s.i + 1); omega
  have key : repeat3 l s =
      (let m : Int := (min (decF (dX l (s.i + 1)) 0) 1000 : Nat)
       let comma := decide ((N : Int) < l.length) && byteAt l N == 44
       let q := digit3 l ({ s.on with i := N } : S3).on
       let n := if comma then (if q.1.2 then q.1.1 else -1) else m
       let s2 := if comma then q.2 else { s.on with i := N }
       if decide ((s2.i : Int) ≥ l.length) || !(byteAt l s2.i == 125) || decide (m > 255) || decide (n > 255) || (decide (n ≥ 0) && decide (m > n)) then ((0, 0, false), s2.fail 3)
       else ((m, n, true), s2.on)) := by
    unfold repeat3
    rw [hm, hc, hg, decide_eq_false (show ¬ (s.i : Int) + 1 ≥ (l.length : Int) by omega), e1, ← hN]
    rfl
  have cm : (decide ((N : Int) < l.length) && byteAt l N == 44) = hasAt l N 44 := by
    unfold hasAt; congr 1; exact decide_eq_decide.2 (by omega)
  have e2 := digit_eq l ({ s.on with i := N } : S3).on
  have hon2 : (({ s.on with i := N } : S3).on).i = N + 1 := rfl
  rw [hon2] at e2
  rw [cm, e2] at key
  have cl : ∀ E, (decide (((E : Nat) : Int) ≥ l.length) || !(byteAt l E == 125)) = !hasAt l E 125 := by
    intro E
    unfold hasAt
    rcases Nat.lt_or_ge E l.length with h | h
    · rw [decide_eq_false (by omega : ¬ ((E : Nat) : Int) ≥ l.length), decide_eq_true h]; simp
    · rw [decide_eq_true (by omega : ((E : Nat) : Int) ≥ l.length), decide_eq_false (by omega)]; simp
  unfold ivOk ivHi ivEnd ivTo
  rw [← hN]
  obtain ⟨x1, hx1⟩ : ∃ x1, x1 = decF (dX l (s.i + 1)) 0 := ⟨_, rfl⟩
  rw [← hx1] at key ⊢
  cases hcm : hasAt l N 44 with
  | false =>
    rw [hcm] at key
    simp only [Bool.false_eq_true, if_false] at key ⊢
    rw [cl] at key
    rw [if_neg hx]
    rw [← hx1]
    constructor
    · rintro ⟨h1, h2, _, _⟩
      rw [key, h1, Nat.min_eq_left (by omega)]
      rw [decide_eq_false (show ¬ (x1 : Int) > 255 by omega), decide_eq_false (show ¬ (x1 : Int) > (x1 : Int) by omega)]
      simp [S3.on]
    · intro hno
      rw [key]
      have : (!hasAt l N 125 || decide (((min x1 1000 : Nat) : Int) > 255) || decide (((min x1 1000 : Nat) : Int) > 255) || (decide (((min x1 1000 : Nat) : Int) ≥ 0) && decide (((min x1 1000 : Nat) : Int) > ((min x1 1000 : Nat) : Int)))) = true := by
        rcases Bool.eq_false_or_eq_true (hasAt l N 125) with h | h
        · rcases Nat.lt_or_ge 255 x1 with h2 | h2
          · rw [decide_eq_true (show ((min x1 1000 : Nat) : Int) > 255 by omega)]; simp
          · exact absurd ⟨h, h2, h2, .inr (Nat.le_refl _)⟩ hno
        · rw [h]; simp
      rw [if_pos this]
      exact fail_f _ (by decide)
  | true =>
    rw [hcm] at key
    simp only [if_true] at key ⊢
    have hlt := hasAt_lt hcm
    rw [cl] at key
    obtain ⟨x2, hx2⟩ : ∃ x2, x2 = decF (dX l (N + 1)) 0 := ⟨_, rfl⟩
    rw [← hx2] at key ⊢
    have hnil := dX_nil l (N + 1) (by omega)
    have hle := dE_le l (N + 1)
    by_cases ht : dX l (N + 1) = []
    · rw [ht] at hnil hx2
      have h0 := (of_decide_eq_true hnil.symm)
      have z : x2 = 0 := hx2
      rw [decide_eq_false (by omega : ¬ N + 1 < dE l (N + 1))] at key
      rw [if_pos ht]
      simp only [Bool.false_eq_true, if_false] at key
      constructor
      · rintro ⟨h1, h2, _, _⟩
        rw [key, h1, Nat.min_eq_left (by omega), decide_eq_false (show ¬ (x1 : Int) > 255 by omega)]
        simp [S3.on]
      · intro hno
        rw [key]
        have : (!hasAt l (dE l (N + 1)) 125 || decide (((min x1 1000 : Nat) : Int) > 255) || decide ((-1 : Int) > 255) || (decide ((-1 : Int) ≥ 0) && decide (((min x1 1000 : Nat) : Int) > -1))) = true := by
          rcases Bool.eq_false_or_eq_true (hasAt l (dE l (N + 1)) 125) with h | h
          · rcases Nat.lt_or_ge 255 x1 with h2 | h2
            · rw [decide_eq_true (show ((min x1 1000 : Nat) : Int) > 255 by omega)]; simp
            · exact absurd ⟨h, h2, by omega, .inl ht⟩ hno
          · rw [h]; simp
        rw [if_pos this]
        exact fail_f _ (by decide)
    · have hne : (dX l (N + 1) == []) = false := by simpa using ht
      rw [hne] at hnil
      have h0 := (of_decide_eq_false hnil.symm)
      rw [decide_eq_true (by omega : N + 1 < dE l (N + 1))] at key
      rw [if_neg ht]
      simp only [if_true] at key
      constructor
      · rintro ⟨h1, h2, h3, h4⟩
        have h4 : x1 ≤ x2 := by rcases h4 with h | h; exact absurd h ht; exact h
        rw [key, h1, Nat.min_eq_left (by omega), Nat.min_eq_left (by omega), decide_eq_false (show ¬ (x1 : Int) > 255 by omega), decide_eq_false (show ¬ (x2 : Int) > 255 by omega), decide_eq_false (show ¬ (x1 : Int) > (x2 : Int) by omega)]
        simp [S3.on]
      · intro hno
        rw [key]
        have : (!hasAt l (dE l (N + 1)) 125 || decide (((min x1 1000 : Nat) : Int) > 255) || decide (((min x2 1000 : Nat) : Int) > 255) || (decide (((min x2 1000 : Nat) : Int) ≥ 0) && decide (((min x1 1000 : Nat) : Int) > ((min x2 1000 : Nat) : Int)))) = true := by
          rcases Bool.eq_false_or_eq_true (hasAt l (dE l (N + 1)) 125) with h | h
          · rcases Nat.lt_or_ge 255 x1 with h2 | h2
            · rw [decide_eq_true (show ((min x1 1000 : Nat) : Int) > 255 by omega)]; simp
            · rcases Nat.lt_or_ge 255 x2 with h3 | h3
              · rw [decide_eq_true (show ((min x2 1000 : Nat) : Int) > 255 by omega)]; simp
              · rcases Nat.lt_or_ge x2 x1 with h4 | h4
                · rw [decide_eq_true (show ((min x2 1000 : Nat) : Int) ≥ 0 by omega), decide_eq_true (show ((min x1 1000 : Nat) : Int) > ((min x2 1000 : Nat) : Int) by omega)]; simp
                · exact absurd ⟨h, h2, h3, .inr h4⟩ hno
          · rw [h]; simp
        rw [if_pos this]
        exact fail_f _ (by decide)

section
variable {w : World} {a : Nat} {l : List UInt8} {i : Nat} {d : Int}
theorem repeat_any {s : S3} (h : Rd w a l s.i d) (hs : s.f = 0) (hi : s.i ≤ l.length) (hl : l.length ≤ 1000000) : Calls Try.prog 97 #[.pointer (some ⟨a, 0, none⟩)] w fun e w' =>
    ((repeat3 l s).2.f = 0 ∧ e = .returned (.tuple #[.int .i64 (repeat3 l s).1.1, .int .i64 (repeat3 l s).1.2.1, .bool (repeat3 l s).1.2.2]) ∧ Rd w' a l (repeat3 l s).2.i d ∧ Kp (fun b => b = a) w w') ∨ ((repeat3 l s).2.f ≠ 0 ∧ Pn w a e w') := by
  refine enter (n := 60) (args := [.pointer (some ⟨a, 0, none⟩)]) Try.func97 rfl rfl rfl (by simp) ?_
  repeat (first | refine qS ?_ | refine qB ?_ | refine qT rfl ?_ | refine qF rfl ?_ | ((first | refine qR rfl ?_ | refine qK ?_ | refine qE ?_ | refine qW ?_ | refine qM ?_); try simp -dsimp (maxSteps := 2000000) (disch := first | omega | (simp only [qZ] <;> omega) | fail) only [push_cast, ↓qP, ↓reduceIte, seval]) | (refine qA ?_ ?_; (first | omega | (simp only [qL]; omega) | (simp only [qD] at *; omega))))
  refine CallV.of isCall_89 (take_one h 42) ?_
  rintro _ w1 ⟨rfl, h1, k1⟩
  cases c1 : hasAt l s.i 42 with
  | true =>
    rw [c1] at h1
    have hlt := hasAt_lt c1
    have hm : more3 l s = true := by unfold more3; simp [hs]; omega
    rw [hasAt_eq _ hlt] at c1
    have e : repeat3 l s = ((0, -1, true), s.on) := by unfold repeat3; rw [hm, c1]; rfl
    rw [e]
    refine Sm.out ?_
    repeat (first | refine qS ?_ | refine qB ?_ | refine qT rfl ?_ | refine qF rfl ?_ | ((first | refine qR rfl ?_ | refine qK ?_ | refine qE ?_ | refine qW ?_ | refine qM ?_); try simp -dsimp (maxSteps := 2000000) (disch := first | omega | (simp only [qZ] <;> omega) | fail) only [push_cast, ↓qP, ↓reduceIte, seval]) | (refine qA ?_ ?_; (first | omega | (simp only [qL]; omega) | (simp only [qD] at *; omega))))
    exact Ret.mk (.inl ⟨hs, rfl, h1, k1⟩)
  | false =>
  rw [c1] at h1
  have h1 : Rd w1 a l s.i d := h1
  refine Sm.out ?_
  repeat (first | refine qS ?_ | refine qB ?_ | refine qT rfl ?_ | refine qF rfl ?_ | ((first | refine qR rfl ?_ | refine qK ?_ | refine qE ?_ | refine qW ?_ | refine qM ?_); try simp -dsimp (maxSteps := 2000000) (disch := first | omega | (simp only [qZ] <;> omega) | fail) only [push_cast, ↓qP, ↓reduceIte, seval]) | (refine qA ?_ ?_; (first | omega | (simp only [qL]; omega) | (simp only [qD] at *; omega))))
  refine CallV.of isCall_89 (take_one h1 43) ?_
  rintro _ w2 ⟨rfl, h2, k2⟩
  cases c2 : hasAt l s.i 43 with
  | true =>
    rw [c2] at h2
    have hlt := hasAt_lt c2
    have hm : more3 l s = true := by unfold more3; simp [hs]; omega
    rw [hasAt_eq _ hlt] at c1 c2
    have e : repeat3 l s = ((1, -1, true), s.on) := by unfold repeat3; rw [hm, c1, c2]; rfl
    rw [e]
    refine Sm.out ?_
    repeat (first | refine qS ?_ | refine qB ?_ | refine qT rfl ?_ | refine qF rfl ?_ | ((first | refine qR rfl ?_ | refine qK ?_ | refine qE ?_ | refine qW ?_ | refine qM ?_); try simp -dsimp (maxSteps := 2000000) (disch := first | omega | (simp only [qZ] <;> omega) | fail) only [push_cast, ↓qP, ↓reduceIte, seval]) | (refine qA ?_ ?_; (first | omega | (simp only [qL]; omega) | (simp only [qD] at *; omega))))
    exact Ret.mk (.inl ⟨hs, rfl, h2, k1.trans k2⟩)
  | false =>
  rw [c2] at h2
  have h2 : Rd w2 a l s.i d := h2
  refine Sm.out ?_
  repeat (first | refine qS ?_ | refine qB ?_ | refine qT rfl ?_ | refine qF rfl ?_ | ((first | refine qR rfl ?_ | refine qK ?_ | refine qE ?_ | refine qW ?_ | refine qM ?_); try simp -dsimp (maxSteps := 2000000) (disch := first | omega | (simp only [qZ] <;> omega) | fail) only [push_cast, ↓qP, ↓reduceIte, seval]) | (refine qA ?_ ?_; (first | omega | (simp only [qL]; omega) | (simp only [qD] at *; omega))))
  refine CallV.of isCall_89 (take_one h2 63) ?_
  rintro _ w3 ⟨rfl, h3, k3⟩
  cases c3 : hasAt l s.i 63 with
  | true =>
    rw [c3] at h3
    have hlt := hasAt_lt c3
    have hm : more3 l s = true := by unfold more3; simp [hs]; omega
    rw [hasAt_eq _ hlt] at c1 c2 c3
    have e : repeat3 l s = ((0, 1, true), s.on) := by unfold repeat3; rw [hm, c1, c2, c3]; rfl
    rw [e]
    refine Sm.out ?_
    repeat (first | refine qS ?_ | refine qB ?_ | refine qT rfl ?_ | refine qF rfl ?_ | ((first | refine qR rfl ?_ | refine qK ?_ | refine qE ?_ | refine qW ?_ | refine qM ?_); try simp -dsimp (maxSteps := 2000000) (disch := first | omega | (simp only [qZ] <;> omega) | fail) only [push_cast, ↓qP, ↓reduceIte, seval]) | (refine qA ?_ ?_; (first | omega | (simp only [qL]; omega) | (simp only [qD] at *; omega))))
    exact Ret.mk (.inl ⟨hs, rfl, h3, (k1.trans k2).trans k3⟩)
  | false =>
  rw [c3] at h3
  have h3 : Rd w3 a l s.i d := h3
  have k4 := (k1.trans k2).trans k3
  clear h h1 h2 k1 k2 k3
  have hb := h3.blk.rdc
  have hz := h3.blk.fz
  have hll : (l.drop s.i).length = l.length - s.i := by simp
  have hlt3 := h3.lt
  -- nothing
  have nothing : (∀ hlt : s.i < l.length, byteAt l s.i == 123 → (decide ((s.i : Int) + 1 ≥ l.length) || !digs 48 57 (byteAt l (s.i + 1))) = true) → repeat3 l s = ((0, 0, false), s) := by
    intro hh
    unfold repeat3
    rcases Nat.lt_or_ge s.i l.length with hlt | hge
    · have hm : more3 l s = true := by unfold more3; simp [hs]; omega
      rw [hasAt_eq _ hlt] at c1 c2 c3
      rw [hm, c1, c2, c3]
      rcases Bool.eq_false_or_eq_true (byteAt l s.i == 123) with h | h
      · rw [h, hh hlt h]; rfl
      · rw [h]; rfl
    · have hm : more3 l s = false := by unfold more3; simp [hs]; omega
      rw [hm]; rfl
  rcases Nat.lt_or_ge (s.i + 1) l.length with hd | hd
  case inr =>
    have g1 : decide ((l.length : Int) - (s.i : Int) > 1) = false := decide_eq_false (by omega)
    rw [nothing (fun hlt _ => by rw [decide_eq_true (by omega : (s.i : Int) + 1 ≥ (l.length : Int))]; rfl)]
    refine Sm.out ?_
    repeat (first | refine qS ?_ | refine qB ?_ | refine qT rfl ?_ | refine qF rfl ?_ | ((first | refine qR rfl ?_ | refine qK ?_ | refine qE ?_ | refine qW ?_ | refine qM ?_); try simp -dsimp (maxSteps := 2000000) (disch := first | omega | (simp only [qZ] <;> omega) | fail) only [push_cast, ↓qP, ↓reduceIte, seval, hb, hll, g1]) | (refine qA ?_ ?_; (first | omega | (simp only [qL]; omega) | (simp only [qD] at *; omega))))
    exact Ret.mk (.inl ⟨hs, rfl, h3, k4⟩)
  have g1 : decide ((l.length : Int) - (s.i : Int) > 1) = true := decide_eq_true (by omega)
  have hg := getD_drop l s.i 0
  have hg1 := getD_drop l s.i 1
  have hl0 : 1 < (l.drop s.i).length := by omega
  by_cases c4 : byteAt l s.i = 123
  case neg =>
    have g2 : (((byteAt l s.i).toNat : Int) == 123) = false := by rw [show (((byteAt l s.i).toNat : Int) == 123) = (byteAt l s.i == 123) from u8e _ 123]; simpa using c4
    rw [nothing (fun hlt h => absurd (by simpa using h) c4)]
    refine Sm.out ?_
    repeat (first | refine qS ?_ | refine qB ?_ | refine qT rfl ?_ | refine qF rfl ?_ | ((first | refine qR rfl ?_ | refine qK ?_ | refine qE ?_ | refine qW ?_ | refine qM ?_); try simp -dsimp (maxSteps := 2000000) (disch := first | omega | (simp only [qZ] <;> omega) | fail) only [push_cast, ↓qP, ↓reduceIte, seval, hb, hll, g1, hg, g2]) | (refine qA ?_ ?_; (first | omega | (simp only [qL]; omega) | (simp only [qD] at *; omega))))
    exact Ret.mk (.inl ⟨hs, rfl, h3, k4⟩)
  have g2 : (((byteAt l s.i).toNat : Int) == 123) = true := by rw [c4]; rfl
  by_cases c5 : digs 48 57 (byteAt l (s.i + 1)) = true
  case neg =>
    rw [nothing (fun hlt h => by rw [show digs 48 57 (byteAt l (s.i + 1)) = false by simpa using c5]; simp)]
    have c5' : digs 48 57 (byteAt l (s.i + 1)) = false := by simpa using c5
    unfold digs at c5'
    have e4 : (48 : UInt8).toNat = 48 := rfl
    have e5 : (57 : UInt8).toNat = 57 := rfl
    rw [e4, e5] at c5'
    rcases Nat.lt_or_ge (byteAt l (s.i + 1)).toNat 48 with h48 | h48
    · have g3 : decide ((48 : Int) ≤ ((byteAt l (s.i + 1)).toNat : Int)) = false := decide_eq_false (by omega)
      refine Sm.out ?_
      repeat (first | refine qS ?_ | refine qB ?_ | refine qT rfl ?_ | refine qF rfl ?_ | ((first | refine qR rfl ?_ | refine qK ?_ | refine qE ?_ | refine qW ?_ | refine qM ?_); try simp -dsimp (maxSteps := 2000000) (disch := first | omega | (simp only [qZ] <;> omega) | fail) only [push_cast, ↓qP, ↓reduceIte, seval, hb, hll, g1, hg, g2, hg1, g3]) | (refine qA ?_ ?_; (first | omega | (simp only [qL]; omega) | (simp only [qD] at *; omega))))
      exact Ret.mk (.inl ⟨hs, rfl, h3, k4⟩)
    · have g3 : decide ((48 : Int) ≤ ((byteAt l (s.i + 1)).toNat : Int)) = true := decide_eq_true (by omega)
      have h57 : ¬ (byteAt l (s.i + 1)).toNat ≤ 57 := by
        rw [decide_eq_true h48, Bool.true_and] at c5'
        exact of_decide_eq_false c5'
      have g4 : decide (((byteAt l (s.i + 1)).toNat : Int) ≤ 57) = false := decide_eq_false (by omega)
      refine Sm.out ?_
      repeat (first | refine qS ?_ | refine qB ?_ | refine qT rfl ?_ | refine qF rfl ?_ | ((first | refine qR rfl ?_ | refine qK ?_ | refine qE ?_ | refine qW ?_ | refine qM ?_); try simp -dsimp (maxSteps := 2000000) (disch := first | omega | (simp only [qZ] <;> omega) | fail) only [push_cast, ↓qP, ↓reduceIte, seval, hb, hll, g1, hg, g2, hg1, g3, g4]) | (refine qA ?_ ?_; (first | omega | (simp only [qL]; omega) | (simp only [qD] at *; omega))))
      exact Ret.mk (.inl ⟨hs, rfl, h3, k4⟩)
  have hdr := dig_range c5
  have e5 : (57 : UInt8).toNat = 57 := rfl
  have g3 : decide ((48 : Int) ≤ ((byteAt l (s.i + 1)).toNat : Int)) = true := decide_eq_true (by omega)
  have g4 : decide (((byteAt l (s.i + 1)).toNat : Int) ≤ 57) = true := decide_eq_true (by omega)
  obtain ⟨r1, r2⟩ := repeat_iv hs (by omega) c4 hd c5
  have hli : ((l.length : Int) - (s.i : Int)).toNat = l.length - s.i := by omega
  have hdd : (l.drop s.i).drop 1 = l.drop (s.i + 1) := by rw [List.drop_drop]
  have htt : ((l.drop (s.i + 1)).take (l.length - s.i - 1)) = l.drop (s.i + 1) := List.take_of_length_le (by simp; omega)
  refine Sm.out ?_
  repeat (first | refine qS ?_ | refine qB ?_ | refine qT rfl ?_ | refine qF rfl ?_ | ((first | refine qR rfl ?_ | refine qK ?_ | refine qE ?_ | refine qW ?_ | refine qM ?_); try simp -dsimp (maxSteps := 2000000) (disch := first | omega | (simp only [qZ] <;> omega) | fail) only [push_cast, ↓qP, ↓reduceIte, seval, hb, hz, hll, g1, hg, g2, hg1, g3, g4, hli, hdd, htt]) | (refine qA ?_ ?_; (first | omega | (simp only [qL]; omega) | (simp only [qD] at *; omega))))
  have h5 : Rd (w3.setCell ⟨a, 0, none⟩ (.string (B (l.drop (s.i + 1))))) a l (s.i + 1) d := h3.blk.set 0 _
  have k5 : Kp (fun b => b = a) w (w3.setCell ⟨a, 0, none⟩ (.string (B (l.drop (s.i + 1))))) := k4.setCell (fun _ => rfl) _
  refine CallV.of isCall_102 (interval_any h5 (by omega) hl) ?_
  rintro e w6 (⟨q1, rfl, h6, k6⟩ | ⟨q1, k, rfl, b1, b2, k6⟩)
  · rw [r1 q1]
    refine Sm.out ?_
    repeat (first | refine qS ?_ | refine qB ?_ | refine qT rfl ?_ | refine qF rfl ?_ | ((first | refine qR rfl ?_ | refine qK ?_ | refine qE ?_ | refine qW ?_ | refine qM ?_); try simp -dsimp (maxSteps := 2000000) (disch := first | omega | (simp only [qZ] <;> omega) | fail) only [push_cast, ↓qP, ↓reduceIte, seval]) | (refine qA ?_ ?_; (first | omega | (simp only [qL]; omega) | (simp only [qD] at *; omega))))
    exact Ret.mk (.inl ⟨hs, rfl, h6, k5.trans k6⟩)
  · refine Sm.out ?_
    repeat (first | refine qS ?_ | refine qB ?_ | refine qT rfl ?_ | refine qF rfl ?_ | ((first | refine qR rfl ?_ | refine qK ?_ | refine qE ?_ | refine qW ?_ | refine qM ?_); try simp -dsimp (maxSteps := 2000000) (disch := first | omega | (simp only [qZ] <;> omega) | fail) only [push_cast, ↓qP, ↓reduceIte, seval]) | (refine qA ?_ ?_; (first | omega | (simp only [qL]; omega) | (simp only [qD] at *; omega))))
    exact Pan.mk (.inr ⟨r2 q1, k, rfl, b1, b2, k5.trans k6⟩)
end
end Go.Proofs.Ytddichibegppjaa

/- The program's sets of bytes: put, class, text. -/
namespace Go.Proofs.Ytddichibegppjaa
open Go Go.VC Go.RowKit

section
variable {w : World} {a g : Nat} {l : List UInt8} {i : Nat} {d : Int} {set : List Bool}

theorem put5_any (h : Blk w g 149 (bools set)) (hs : set.length = 256) (x y : UInt8) : Calls Try.prog 112 #[.pointer (some ⟨g, 0, none⟩), .int .u8 (x.toNat : Int), .int .u8 (y.toNat : Int)] w fun e w' =>
    e = .returned (.tuple #[]) ∧ Blk w' g 149 (bools (putR set x.toNat y.toNat)) ∧ Kp (fun b => b = g) w w' := by
  have hx := x.toNat_lt
  have hy := y.toNat_lt
  refine enter (n := 19) (args := [.pointer (some ⟨g, 0, none⟩), .int .u8 (x.toNat : Int), .int .u8 (y.toNat : Int)]) Try.func112 rfl rfl rfl (by simp) ?_
  repeat (first | refine qS ?_ | refine qB ?_ | refine qT rfl ?_ | refine qF rfl ?_ | ((first | refine qR rfl ?_ | refine qK ?_ | refine qE ?_ | refine qW ?_ | refine qM ?_); try simp -dsimp (maxSteps := 2000000) (disch := first | omega | (simp only [qZ] <;> omega) | fail) only [push_cast, ↓qP, ↓reduceIte, seval]) | (refine qA ?_ ?_; (first | omega | (simp only [qL]; omega) | (simp only [qD] at *; omega))))
  refine Wp.loop (α := Nat) (fun k F W => F 0 = .pointer (some ⟨g, 0, none⟩) ∧ F 2 = .int .u8 (y.toNat : Int) ∧ F 6 = .int .i64 (k : Int) ∧ x.toNat ≤ k ∧ k ≤ 256 ∧ (x.toNat ≤ y.toNat → k ≤ y.toNat + 1) ∧ (y.toNat < x.toNat → k = x.toNat) ∧ Blk W g 149 (bools (putK set x.toNat k)) ∧ Kp (fun b => b = g) w W) (fun k => 256 - k) x.toNat
    ⟨by simp [upd, arg], by simp [upd, arg], by simp [upd], by omega, by omega, by omega, by omega, by rw [putK_zero]; exact h, Kp.refl _ _⟩ ?_
  clear h
  rintro k F W ⟨f0, f2, f6, hk1, hk2, hk3, hk4, hb, kp⟩
  have hz := hb.fz
  have hlt := hb.lt
  rcases Nat.lt_or_ge y.toNat k with h1 | h1
  · have c1 : decide ((k : Int) ≤ (y.toNat : Int)) = false := decide_eq_false (by omega)
    repeat (first | refine qS ?_ | refine qB ?_ | refine qT rfl ?_ | refine qF rfl ?_ | ((first | refine qR rfl ?_ | refine qK ?_ | refine qE ?_ | refine qW ?_ | refine qM ?_); try simp -dsimp (maxSteps := 2000000) (disch := first | omega | (simp only [qZ] <;> omega) | fail) only [push_cast, ↓qP, ↓reduceIte, seval, f0, f2, f6, c1]) | (refine qA ?_ ?_; (first | omega | (simp only [qL]; omega) | (simp only [qD] at *; omega))))
    refine Ret.mk ⟨rfl, ?_, kp⟩
    have : putK set x.toNat k = putR set x.toNat y.toNat := by
      rcases Nat.lt_or_ge y.toNat x.toNat with h2 | h2
      · rw [hk4 h2, putK_zero]
        refine List.ext_getElem? fun j => ?_
        unfold putR
        rw [List.getElem?_map, List.getElem?_zipIdx]
        cases set[j]? with
        | none => rfl
        | some b =>
          have : (decide (x.toNat ≤ 0 + j) && decide (0 + j ≤ y.toNat)) = false := by
            rcases Nat.lt_or_ge j x.toNat with h3 | h3
            · rw [decide_eq_false (by omega : ¬ x.toNat ≤ 0 + j)]; rfl
            · rw [decide_eq_false (by omega : ¬ 0 + j ≤ y.toNat), Bool.and_false]
          simp only [Option.map_some, this, Bool.or_false]
      · rw [show k = y.toNat + 1 by omega, putK_all]
    rw [← this]; exact hb
  · have c1 : decide ((k : Int) ≤ (y.toNat : Int)) = true := decide_eq_true (by omega)
    have hcell : rdc W g k = some (.bool ((putK set x.toNat k).getD k false)) := by rw [hb.rdc]; exact bools_get _ _ (by rw [putK_len, hs]; omega)
    have hset := hb.set k (.bool true)
    rw [bools_set, ← putK_succ _ _ _ (by omega) (by omega)] at hset
    repeat (first | refine qS ?_ | refine qB ?_ | refine qT rfl ?_ | refine qF rfl ?_ | ((first | refine qR rfl ?_ | refine qK ?_ | refine qE ?_ | refine qW ?_ | refine qM ?_); try simp -dsimp (maxSteps := 2000000) (disch := first | omega | (simp only [qZ] <;> omega) | fail) only [push_cast, ↓qP, ↓reduceIte, seval, f0, f2, f6, c1, hcell, hz]) | (refine qA ?_ ?_; (first | omega | (simp only [qL]; omega) | (simp only [qD] at *; omega))))
    exact Again.mk (k + 1) ⟨by simp [upd, f0], by simp [upd, f2], by simp [upd], by omega, by omega, by omega, by omega, hset, kp.setCell (fun _ => rfl) _⟩ (by omega)

/-- Ranges, one behind the other. -/
def putE : List UInt8 → List Bool → List Bool
  | a :: b :: t, set => putE t (putR set a.toNat b.toNat)
  | _, set => set
theorem putE_len : ∀ (E : List UInt8) (set : List Bool), (putE E set).length = set.length
  | [], set => rfl
  | [a], set => rfl
  | a :: b :: t, set => by rw [putE, putE_len t, putR_len]
def clE (n : List UInt8) : List UInt8 :=
  if n == nAlpha then [65, 90, 97, 122] else if n == nDigit then [48, 57] else if n == nAlnum then [48, 57, 65, 90, 97, 122] else if n == nUpper then [65, 90] else if n == nLower then [97, 122]
  else if n == nSpace then [9, 13, 32, 32] else if n == nBlank then [9, 9, 32, 32] else if n == nPunct then [33, 47, 58, 64, 91, 96, 123, 126] else if n == nPrint then [32, 126] else if n == nGraph then [33, 126]
  else if n == nCntrl then [0, 31, 127, 127] else if n == nXdigit then [48, 57, 65, 70, 97, 102] else []
def inE : List UInt8 → Nat → Bool
  | a :: b :: t, k => decide (a.toNat ≤ k) && decide (k ≤ b.toNat) || inE t k
  | _, _ => false
theorem putE_get : ∀ (E : List UInt8) (set : List Bool) (j : Nat), (putE E set)[j]? = set[j]?.map fun b => b || inE E j
  | [], set, j => by simp [putE, inE]
  | [a], set, j => by simp [putE, inE]
  | a :: b :: t, set, j => by
    rw [putE, putE_get t]
    unfold putR
    rw [List.getElem?_map, List.getElem?_zipIdx]
    cases set[j]? with
    | none => rfl
    | some x => simp [inE, Bool.or_assoc]
theorem inE_ok : ∀ n ∈ [nAlpha, nDigit, nAlnum, nUpper, nLower, nSpace, nBlank, nPunct, nPrint, nGraph, nCntrl, nXdigit], ∀ k : Fin 256, (in3 n (k.val : Int)).1 = inE (clE n) k.val := by decide +kernel
theorem cls (n : List UInt8) : n ∈ [nAlpha, nDigit, nAlnum, nUpper, nLower, nSpace, nBlank, nPunct, nPrint, nGraph, nCntrl, nXdigit] ∨ ((∀ c, in3 n c = (false, false)) ∧ clE n = []) := by
  by_cases h : n ∈ [nAlpha, nDigit, nAlnum, nUpper, nLower, nSpace, nBlank, nPunct, nPrint, nGraph, nCntrl, nXdigit]
  · exact .inl h
  · right
    simp only [List.mem_cons, List.not_mem_nil, or_false, not_or] at h
    obtain ⟨h1, h2, h3, h4, h5, h6, h7, h8, h9, h10, h11, h12⟩ := h
    constructor
    · intro c; unfold in3; simp only [beq_iff_eq, h1, h2, h3, h4, h5, h6, h7, h8, h9, h10, h11, h12, if_false]
    · unfold clE; simp only [beq_iff_eq, h1, h2, h3, h4, h5, h6, h7, h8, h9, h10, h11, h12, if_false]
theorem cls_ok : ∀ n ∈ [nAlpha, nDigit, nAlnum, nUpper, nLower, nSpace, nBlank, nPunct, nPrint, nGraph, nCntrl, nXdigit], (in3 n 0).2 = true ∧ (clE n).length % 2 = 0 ∧ (clE n).length ≤ 8 ∧ clE n ≠ [] := by decide +kernel
theorem names_in {n : List UInt8} (h : (in3 n 0).2 = true) : n ∈ [nAlpha, nDigit, nAlnum, nUpper, nLower, nSpace, nBlank, nPunct, nPrint, nGraph, nCntrl, nXdigit] := by
  rcases cls n with h1 | ⟨h1, _⟩
  · exact h1
  · rw [h1] at h; cases h
theorem clPut_E {n : List UInt8} (h : (in3 n 0).2 = true) (hs : set.length = 256) : clPut n set = putE (clE n) set := by
  refine List.ext_getElem? fun j => ?_
  rw [putE_get]
  unfold clPut
  rw [List.getElem?_map, List.getElem?_zipIdx]
  rcases Nat.lt_or_ge j 256 with hj | hj
  · rw [List.getElem?_eq_getElem (by omega)]
    simp only [Option.map_some, Nat.zero_add]
    rw [inE_ok n (names_in h) ⟨j, hj⟩]
  · rw [List.getElem?_eq_none (by omega)]; rfl
theorem clE_bad {n : List UInt8} (h : (in3 n 0).2 = false) : clE n = [] := by
  rcases cls n with h1 | ⟨_, h1⟩
  · rw [(cls_ok n h1).1] at h; cases h
  · exact h1
theorem clE_even (n : List UInt8) : ∃ m, (clE n).length = 2 * m ∧ m ≤ 4 := by
  rcases cls n with h1 | ⟨_, h1⟩
  · have := cls_ok n h1
    exact ⟨(clE n).length / 2, by omega, by omega⟩
  · rw [h1]; exact ⟨0, rfl, by omega⟩
theorem clE_ne (n : List UInt8) : (clE n != []) = (in3 n 0).2 := by
  rcases cls n with h1 | ⟨h2, h1⟩
  · have := cls_ok n h1
    rw [this.1]; simpa using this.2.2.2
  · rw [h1, h2]; rfl
theorem putE_take : ∀ (m : Nat) (E : List UInt8) (set : List Bool), 2 * m + 2 ≤ E.length → putE (E.take (2 * (m + 1))) set = putR (putE (E.take (2 * m)) set) (byteAt E (2 * m)).toNat (byteAt E (2 * m + 1)).toNat
  | 0, a :: b :: t, set, _ => by simp [putE, byteAt]
  | m + 1, a :: b :: t, set, h => by
    have := putE_take m t (putR set a.toNat b.toNat) (by simp at h; omega)
    rw [show 2 * (m + 1 + 1) = 2 * (m + 1) + 1 + 1 by omega, show 2 * (m + 1) = 2 * m + 1 + 1 by omega]
    simp only [List.take_succ_cons, putE]
    rw [show 2 * m + 1 + 1 = 2 * (m + 1) by omega, this]
    simp [byteAt, show 2 * (m + 1) = 2 * m + 1 + 1 by omega]
  | m, [], set, h => by simp at h
  | m, [a], set, h => by simp at h

theorem class_any (h : Blk w g 149 (bools set)) (hs : set.length = 256) (n : List UInt8) : Calls Try.prog 115 #[.pointer (some ⟨g, 0, none⟩), .string (B n)] w fun e w' =>
    e = .returned (.bool (in3 n 0).2) ∧ Blk w' g 149 (bools (if (in3 n 0).2 then clPut n set else set)) ∧ Kp (fun b => b = g) w w' := by
  have hfin : putE (clE n) set = if (in3 n 0).2 then clPut n set else set := by
    cases hc : (in3 n 0).2 with
    | true => rw [if_pos rfl, clPut_E hc hs]
    | false => rw [clE_bad hc]; rfl
  rw [← hfin, ← clE_ne]
  obtain ⟨m, hm, hm4⟩ := clE_even n
  refine enter (n := 49) (args := [.pointer (some ⟨g, 0, none⟩), .string (B n)]) Try.func115 rfl rfl rfl (by simp) ?_
  refine Sm.out ?_
  repeat (first | ((fail_if_success (first | refine qY (n := 2) ?_ | refine qV (n := 2) ?_)); refine qS ?_) | refine qB ?_ | refine qT rfl ?_ | refine qF rfl ?_ | ((first | refine qR rfl ?_ | refine qK ?_ | refine qE ?_ | refine qW ?_ | refine qM ?_); try simp -dsimp (maxSteps := 2000000) (disch := first | omega | (simp only [qZ] <;> omega) | fail) only [push_cast, ↓qP, ↓reduceIte, seval]) | (refine qA ?_ ?_; (first | omega | (simp only [qL]; omega) | (simp only [qD] at *; omega))))
  refine Wp.cut (fun F W => F 0 = .pointer (some ⟨g, 0, none⟩) ∧ F 5 = .string (B (clE n)) ∧ W = w) ?_ ?_
  · cases h0 : n == nAlpha with
    | true =>
      have g0 : (n == [97, 108, 112, 104, 97]) = true := h0
      have hc : clE n = [65, 90, 97, 122] := by unfold clE; simp only [h0, Bool.false_eq_true, if_false, if_true]
      repeat (first | refine qS ?_ | refine qB ?_ | refine qT rfl ?_ | refine qF rfl ?_ | ((first | refine qR rfl ?_ | refine qK ?_ | refine qE ?_ | refine qW ?_ | refine qM ?_); try simp -dsimp (maxSteps := 2000000) (disch := first | omega | (simp only [qZ] <;> omega) | fail) only [push_cast, ↓qP, ↓reduceIte, seval, g0]) | (refine qA ?_ ?_; (first | omega | (simp only [qL]; omega) | (simp only [qD] at *; omega))))
      exact Mid.mk ⟨by simp [upd, arg], by rw [hc]; rfl, rfl⟩
    | false =>
    have g0 : (n == [97, 108, 112, 104, 97]) = false := h0
    cases h1 : n == nDigit with
    | true =>
      have g1 : (n == [100, 105, 103, 105, 116]) = true := h1
      have hc : clE n = [48, 57] := by unfold clE; simp only [h0, h1, Bool.false_eq_true, if_false, if_true]
      repeat (first | refine qS ?_ | refine qB ?_ | refine qT rfl ?_ | refine qF rfl ?_ | ((first | refine qR rfl ?_ | refine qK ?_ | refine qE ?_ | refine qW ?_ | refine qM ?_); try simp -dsimp (maxSteps := 2000000) (disch := first | omega | (simp only [qZ] <;> omega) | fail) only [push_cast, ↓qP, ↓reduceIte, seval, g0, g1]) | (refine qA ?_ ?_; (first | omega | (simp only [qL]; omega) | (simp only [qD] at *; omega))))
      exact Mid.mk ⟨by simp [upd, arg], by rw [hc]; rfl, rfl⟩
    | false =>
    have g1 : (n == [100, 105, 103, 105, 116]) = false := h1
    cases h2 : n == nAlnum with
    | true =>
      have g2 : (n == [97, 108, 110, 117, 109]) = true := h2
      have hc : clE n = [48, 57, 65, 90, 97, 122] := by unfold clE; simp only [h0, h1, h2, Bool.false_eq_true, if_false, if_true]
      repeat (first | refine qS ?_ | refine qB ?_ | refine qT rfl ?_ | refine qF rfl ?_ | ((first | refine qR rfl ?_ | refine qK ?_ | refine qE ?_ | refine qW ?_ | refine qM ?_); try simp -dsimp (maxSteps := 2000000) (disch := first | omega | (simp only [qZ] <;> omega) | fail) only [push_cast, ↓qP, ↓reduceIte, seval, g0, g1, g2]) | (refine qA ?_ ?_; (first | omega | (simp only [qL]; omega) | (simp only [qD] at *; omega))))
      exact Mid.mk ⟨by simp [upd, arg], by rw [hc]; rfl, rfl⟩
    | false =>
    have g2 : (n == [97, 108, 110, 117, 109]) = false := h2
    cases h3 : n == nUpper with
    | true =>
      have g3 : (n == [117, 112, 112, 101, 114]) = true := h3
      have hc : clE n = [65, 90] := by unfold clE; simp only [h0, h1, h2, h3, Bool.false_eq_true, if_false, if_true]
      repeat (first | refine qS ?_ | refine qB ?_ | refine qT rfl ?_ | refine qF rfl ?_ | ((first | refine qR rfl ?_ | refine qK ?_ | refine qE ?_ | refine qW ?_ | refine qM ?_); try simp -dsimp (maxSteps := 2000000) (disch := first | omega | (simp only [qZ] <;> omega) | fail) only [push_cast, ↓qP, ↓reduceIte, seval, g0, g1, g2, g3]) | (refine qA ?_ ?_; (first | omega | (simp only [qL]; omega) | (simp only [qD] at *; omega))))
      exact Mid.mk ⟨by simp [upd, arg], by rw [hc]; rfl, rfl⟩
    | false =>
    have g3 : (n == [117, 112, 112, 101, 114]) = false := h3
    cases h4 : n == nLower with
    | true =>
      have g4 : (n == [108, 111, 119, 101, 114]) = true := h4
      have hc : clE n = [97, 122] := by unfold clE; simp only [h0, h1, h2, h3, h4, Bool.false_eq_true, if_false, if_true]
      repeat (first | refine qS ?_ | refine qB ?_ | refine qT rfl ?_ | refine qF rfl ?_ | ((first | refine qR rfl ?_ | refine qK ?_ | refine qE ?_ | refine qW ?_ | refine qM ?_); try simp -dsimp (maxSteps := 2000000) (disch := first | omega | (simp only [qZ] <;> omega) | fail) only [push_cast, ↓qP, ↓reduceIte, seval, g0, g1, g2, g3, g4]) | (refine qA ?_ ?_; (first | omega | (simp only [qL]; omega) | (simp only [qD] at *; omega))))
      exact Mid.mk ⟨by simp [upd, arg], by rw [hc]; rfl, rfl⟩
    | false =>
    have g4 : (n == [108, 111, 119, 101, 114]) = false := h4
    cases h5 : n == nSpace with
    | true =>
      have g5 : (n == [115, 112, 97, 99, 101]) = true := h5
      have hc : clE n = [9, 13, 32, 32] := by unfold clE; simp only [h0, h1, h2, h3, h4, h5, Bool.false_eq_true, if_false, if_true]
      repeat (first | refine qS ?_ | refine qB ?_ | refine qT rfl ?_ | refine qF rfl ?_ | ((first | refine qR rfl ?_ | refine qK ?_ | refine qE ?_ | refine qW ?_ | refine qM ?_); try simp -dsimp (maxSteps := 2000000) (disch := first | omega | (simp only [qZ] <;> omega) | fail) only [push_cast, ↓qP, ↓reduceIte, seval, g0, g1, g2, g3, g4, g5]) | (refine qA ?_ ?_; (first | omega | (simp only [qL]; omega) | (simp only [qD] at *; omega))))
      exact Mid.mk ⟨by simp [upd, arg], by rw [hc]; rfl, rfl⟩
    | false =>
    have g5 : (n == [115, 112, 97, 99, 101]) = false := h5
    cases h6 : n == nBlank with
    | true =>
      have g6 : (n == [98, 108, 97, 110, 107]) = true := h6
      have hc : clE n = [9, 9, 32, 32] := by unfold clE; simp only [h0, h1, h2, h3, h4, h5, h6, Bool.false_eq_true, if_false, if_true]
      repeat (first | refine qS ?_ | refine qB ?_ | refine qT rfl ?_ | refine qF rfl ?_ | ((first | refine qR rfl ?_ | refine qK ?_ | refine qE ?_ | refine qW ?_ | refine qM ?_); try simp -dsimp (maxSteps := 2000000) (disch := first | omega | (simp only [qZ] <;> omega) | fail) only [push_cast, ↓qP, ↓reduceIte, seval, g0, g1, g2, g3, g4, g5, g6]) | (refine qA ?_ ?_; (first | omega | (simp only [qL]; omega) | (simp only [qD] at *; omega))))
      exact Mid.mk ⟨by simp [upd, arg], by rw [hc]; rfl, rfl⟩
    | false =>
    have g6 : (n == [98, 108, 97, 110, 107]) = false := h6
    cases h7 : n == nPunct with
    | true =>
      have g7 : (n == [112, 117, 110, 99, 116]) = true := h7
      have hc : clE n = [33, 47, 58, 64, 91, 96, 123, 126] := by unfold clE; simp only [h0, h1, h2, h3, h4, h5, h6, h7, Bool.false_eq_true, if_false, if_true]
      repeat (first | refine qS ?_ | refine qB ?_ | refine qT rfl ?_ | refine qF rfl ?_ | ((first | refine qR rfl ?_ | refine qK ?_ | refine qE ?_ | refine qW ?_ | refine qM ?_); try simp -dsimp (maxSteps := 2000000) (disch := first | omega | (simp only [qZ] <;> omega) | fail) only [push_cast, ↓qP, ↓reduceIte, seval, g0, g1, g2, g3, g4, g5, g6, g7]) | (refine qA ?_ ?_; (first | omega | (simp only [qL]; omega) | (simp only [qD] at *; omega))))
      exact Mid.mk ⟨by simp [upd, arg], by rw [hc]; rfl, rfl⟩
    | false =>
    have g7 : (n == [112, 117, 110, 99, 116]) = false := h7
    cases h8 : n == nPrint with
    | true =>
      have g8 : (n == [112, 114, 105, 110, 116]) = true := h8
      have hc : clE n = [32, 126] := by unfold clE; simp only [h0, h1, h2, h3, h4, h5, h6, h7, h8, Bool.false_eq_true, if_false, if_true]
      repeat (first | refine qS ?_ | refine qB ?_ | refine qT rfl ?_ | refine qF rfl ?_ | ((first | refine qR rfl ?_ | refine qK ?_ | refine qE ?_ | refine qW ?_ | refine qM ?_); try simp -dsimp (maxSteps := 2000000) (disch := first | omega | (simp only [qZ] <;> omega) | fail) only [push_cast, ↓qP, ↓reduceIte, seval, g0, g1, g2, g3, g4, g5, g6, g7, g8]) | (refine qA ?_ ?_; (first | omega | (simp only [qL]; omega) | (simp only [qD] at *; omega))))
      exact Mid.mk ⟨by simp [upd, arg], by rw [hc]; rfl, rfl⟩
    | false =>
    have g8 : (n == [112, 114, 105, 110, 116]) = false := h8
    cases h9 : n == nGraph with
    | true =>
      have g9 : (n == [103, 114, 97, 112, 104]) = true := h9
      have hc : clE n = [33, 126] := by unfold clE; simp only [h0, h1, h2, h3, h4, h5, h6, h7, h8, h9, Bool.false_eq_true, if_false, if_true]
      repeat (first | refine qS ?_ | refine qB ?_ | refine qT rfl ?_ | refine qF rfl ?_ | ((first | refine qR rfl ?_ | refine qK ?_ | refine qE ?_ | refine qW ?_ | refine qM ?_); try simp -dsimp (maxSteps := 2000000) (disch := first | omega | (simp only [qZ] <;> omega) | fail) only [push_cast, ↓qP, ↓reduceIte, seval, g0, g1, g2, g3, g4, g5, g6, g7, g8, g9]) | (refine qA ?_ ?_; (first | omega | (simp only [qL]; omega) | (simp only [qD] at *; omega))))
      exact Mid.mk ⟨by simp [upd, arg], by rw [hc]; rfl, rfl⟩
    | false =>
    have g9 : (n == [103, 114, 97, 112, 104]) = false := h9
    cases h10 : n == nCntrl with
    | true =>
      have g10 : (n == [99, 110, 116, 114, 108]) = true := h10
      have hc : clE n = [0, 31, 127, 127] := by unfold clE; simp only [h0, h1, h2, h3, h4, h5, h6, h7, h8, h9, h10, Bool.false_eq_true, if_false, if_true]
      repeat (first | refine qS ?_ | refine qB ?_ | refine qT rfl ?_ | refine qF rfl ?_ | ((first | refine qR rfl ?_ | refine qK ?_ | refine qE ?_ | refine qW ?_ | refine qM ?_); try simp -dsimp (maxSteps := 2000000) (disch := first | omega | (simp only [qZ] <;> omega) | fail) only [push_cast, ↓qP, ↓reduceIte, seval, g0, g1, g2, g3, g4, g5, g6, g7, g8, g9, g10]) | (refine qA ?_ ?_; (first | omega | (simp only [qL]; omega) | (simp only [qD] at *; omega))))
      exact Mid.mk ⟨by simp [upd, arg], by rw [hc]; rfl, rfl⟩
    | false =>
    have g10 : (n == [99, 110, 116, 114, 108]) = false := h10
    cases h11 : n == nXdigit with
    | true =>
      have g11 : (n == [120, 100, 105, 103, 105, 116]) = true := h11
      have hc : clE n = [48, 57, 65, 70, 97, 102] := by unfold clE; simp only [h0, h1, h2, h3, h4, h5, h6, h7, h8, h9, h10, h11, Bool.false_eq_true, if_false, if_true]
      repeat (first | refine qS ?_ | refine qB ?_ | refine qT rfl ?_ | refine qF rfl ?_ | ((first | refine qR rfl ?_ | refine qK ?_ | refine qE ?_ | refine qW ?_ | refine qM ?_); try simp -dsimp (maxSteps := 2000000) (disch := first | omega | (simp only [qZ] <;> omega) | fail) only [push_cast, ↓qP, ↓reduceIte, seval, g0, g1, g2, g3, g4, g5, g6, g7, g8, g9, g10, g11]) | (refine qA ?_ ?_; (first | omega | (simp only [qL]; omega) | (simp only [qD] at *; omega))))
      exact Mid.mk ⟨by simp [upd, arg], by rw [hc]; rfl, rfl⟩
    | false =>
    have g11 : (n == [120, 100, 105, 103, 105, 116]) = false := h11
    have hc : clE n = [] := by unfold clE; simp only [h0, h1, h2, h3, h4, h5, h6, h7, h8, h9, h10, h11, Bool.false_eq_true, if_false]
    repeat (first | refine qS ?_ | refine qB ?_ | refine qT rfl ?_ | refine qF rfl ?_ | ((first | refine qR rfl ?_ | refine qK ?_ | refine qE ?_ | refine qW ?_ | refine qM ?_); try simp -dsimp (maxSteps := 2000000) (disch := first | omega | (simp only [qZ] <;> omega) | fail) only [push_cast, ↓qP, ↓reduceIte, seval, g0, g1, g2, g3, g4, g5, g6, g7, g8, g9, g10, g11]) | (refine qA ?_ ?_; (first | omega | (simp only [qL]; omega) | (simp only [qD] at *; omega))))
    exact Mid.mk ⟨by simp [upd, arg], by rw [hc]; rfl, rfl⟩
  rintro F W ⟨f0, f5, rfl⟩
  generalize clE n = E at *
  refine Sm.out ?_
  repeat (first | ((fail_if_success (first | refine qY (n := 27) ?_ | refine qV (n := 27) ?_)); refine qS ?_) | refine qB ?_ | refine qT rfl ?_ | refine qF rfl ?_ | ((first | refine qR rfl ?_ | refine qK ?_ | refine qE ?_ | refine qW ?_ | refine qM ?_); try simp -dsimp (maxSteps := 2000000) (disch := first | omega | (simp only [qZ] <;> omega) | fail) only [push_cast, ↓qP, ↓reduceIte, seval, f0]) | (refine qA ?_ ?_; (first | omega | (simp only [qL]; omega) | (simp only [qD] at *; omega))))
  refine Wp.cut (fun F W' => F 5 = .string (B E) ∧ Blk W' g 149 (bools (putE E set)) ∧ Kp (fun b => b = g) W W') ?_ ?_
  · repeat (first | refine qS ?_ | refine qB ?_ | refine qT rfl ?_ | refine qF rfl ?_ | ((first | refine qR rfl ?_ | refine qK ?_ | refine qE ?_ | refine qW ?_ | refine qM ?_); try simp -dsimp (maxSteps := 2000000) (disch := first | omega | (simp only [qZ] <;> omega) | fail) only [push_cast, ↓qP, ↓reduceIte, seval]) | (refine qA ?_ ?_; (first | omega | (simp only [qL]; omega) | (simp only [qD] at *; omega))))
    refine Wp.loop (α := Nat) (fun k F W' => F 0 = .pointer (some ⟨g, 0, none⟩) ∧ F 5 = .string (B E) ∧ F 6 = .int .i64 ((2 * k : Nat) : Int) ∧ k ≤ m ∧ Blk W' g 149 (bools (putE (E.take (2 * k)) set)) ∧ Kp (fun b => b = g) W W') (fun k => m - k) 0
      ⟨by simp [upd, f0], by simp [upd, f5], by simp [upd], by omega, by simpa [putE] using h, Kp.refl _ _⟩ ?_
    clear f0 f5 h
    rintro k F W' ⟨f0, f5, f6, hk, hb, kp⟩
    rcases Nat.lt_or_ge k m with h1 | h1
    · have c1 : decide (((2 * k : Nat) : Int) < (E.length : Int)) = true := decide_eq_true (by omega)
      have i1 : (((2 * k : Nat) : Int)).toNat = 2 * k := by omega
      have i2 : (((2 * k : Nat) : Int) + 1).toNat = 2 * k + 1 := by omega
      have i3 : ((2 * k : Nat) : Int) + 2 = ((2 * (k + 1) : Nat) : Int) := by omega
      generalize hj : ((2 * k : Nat) : Int) = j at *
      repeat (first | refine qS ?_ | refine qB ?_ | refine qT rfl ?_ | refine qF rfl ?_ | ((first | refine qR rfl ?_ | refine qK ?_ | refine qE ?_ | refine qW ?_ | refine qM ?_); try simp -dsimp (maxSteps := 2000000) (disch := first | omega | (simp only [qZ] <;> omega) | fail) only [push_cast, ↓qP, ↓reduceIte, seval, f0, f5, f6, c1]) | (refine qA ?_ ?_; (first | omega | (simp only [qL]; omega) | (simp only [qD] at *; omega))))
      refine Wp.draw [0, 0, 0, 6, 0, 0, 32, 112, 255] [8] (.op 0 false false [] <| .op 1 false false [] <| .op 2 false false [] <| .op 3 false false [] <| .op 4 false false [] <| .op 5 false false [] <| .op 6 false false [] <| .op 7 false false [] <| .op 8 true false [] <| .nil) mixed (by kernel_rfl) ?_
      simp -dsimp (maxSteps := 2000000) (disch := first | omega | (simp only [qZ] <;> omega) | fail) only [push_cast, ↓qP, ↓reduceIte, seval, f0, f5, f6, i1, i2]
      refine ⟨by omega, by omega, ?_⟩
      refine CallV.of isCall_112 (put5_any (hb.drew) (by rw [putE_len]; exact hs) _ _) ?_
      rintro _ w3 ⟨rfl, hb3, k3⟩
      rw [← putE_take k E set (by omega)] at hb3
      refine Sm.out ?_
      repeat (first | refine qS ?_ | refine qB ?_ | refine qT rfl ?_ | refine qF rfl ?_ | ((first | refine qR rfl ?_ | refine qK ?_ | refine qE ?_ | refine qW ?_ | refine qM ?_); try simp -dsimp (maxSteps := 2000000) (disch := first | omega | (simp only [qZ] <;> omega) | fail) only [push_cast, ↓qP, ↓reduceIte, seval, f0, f5, f6, i3]) | (refine qA ?_ ?_; (first | omega | (simp only [qL]; omega) | (simp only [qD] at *; omega))))
      exact Again.mk (k + 1) ⟨by simp [upd, f0], by simp [upd, f5], by simp [upd], by omega, hb3, kp.trans (Kp.drew (Kp.refl _ _) |>.trans k3)⟩ (by omega)
    · have c1 : decide (((2 * k : Nat) : Int) < (E.length : Int)) = false := decide_eq_false (by omega)
      generalize hj : ((2 * k : Nat) : Int) = j at *
      rw [List.take_of_length_le (by omega)] at hb
      repeat (first | refine qS ?_ | refine qB ?_ | refine qT rfl ?_ | refine qF rfl ?_ | ((first | refine qR rfl ?_ | refine qK ?_ | refine qE ?_ | refine qW ?_ | refine qM ?_); try simp -dsimp (maxSteps := 2000000) (disch := first | omega | (simp only [qZ] <;> omega) | fail) only [push_cast, ↓qP, ↓reduceIte, seval, f0, f5, f6, c1]) | (refine qA ?_ ?_; (first | omega | (simp only [qL]; omega) | (simp only [qD] at *; omega))))
      exact Mid.mk ⟨by simp [upd, f5], hb, kp⟩
  clear f0 f5
  rintro F W' ⟨f5, hb, kp⟩
  repeat (first | refine qS ?_ | refine qB ?_ | refine qT rfl ?_ | refine qF rfl ?_ | ((first | refine qR rfl ?_ | refine qK ?_ | refine qE ?_ | refine qW ?_ | refine qM ?_); try simp -dsimp (maxSteps := 2000000) (disch := first | omega | (simp only [qZ] <;> omega) | fail) only [push_cast, ↓qP, ↓reduceIte, seval, f5]) | (refine qA ?_ ?_; (first | omega | (simp only [qL]; omega) | (simp only [qD] at *; omega))))
  exact Ret.mk ⟨rfl, hb, kp⟩

theorem text_any (h : Blk w g 149 (bools set)) (hs : set.length = 256) (b : Bool) : Calls Try.prog 105 #[.pointer (some ⟨g, 0, none⟩), .bool b] w fun e w' =>
    e = .returned (.string (B (bytesOf set (!b)))) ∧ Kp (fun _ => False) w w' := by
  refine enter (n := 26) (args := [.pointer (some ⟨g, 0, none⟩), .bool b]) Try.func105 rfl rfl rfl (by simp) ?_
  have hlt := h.lt
  repeat (first | refine qS ?_ | refine qB ?_ | refine qT rfl ?_ | refine qF rfl ?_ | ((first | refine qR rfl ?_ | refine qK ?_ | refine qE ?_ | refine qW ?_ | refine qM ?_); try simp -dsimp (maxSteps := 2000000) (disch := first | omega | (simp only [qZ] <;> omega) | fail) only [push_cast, ↓qP, ↓reduceIte, seval]) | (refine qA ?_ ?_; (first | omega | (simp only [qL]; omega) | (simp only [qD] at *; omega))))
  refine Wp.loop (α := Nat) (fun k F W => ∃ A n cap, F 1 = .bool b ∧ F 5 = .slice A n cap ∧ F 8 = .pointer (some ⟨g, 0, none⟩) ∧ F 9 = .int .i64 (k : Int) ∧ k ≤ 256 ∧ Own W 5 1 A n cap (by8s (bytesK set (!b) k)) ∧ n = (bytesK set (!b) k).length ∧ (∀ q, bk A = some q → w.heap.size ≤ q) ∧ Kp (fun _ => False) w W) (fun k => 256 - k) 0
    ⟨none, 0, 0, by simp [upd, arg], by simp [upd], by simp [upd, arg], by simp [upd], by omega, Own.nil _ _ _, rfl, by simp [bk], Kp.refl _ _⟩ ?_
  rintro k F W ⟨A, n, cap, f1, f5, f8, f9, hk, hown, hn, hnew, kp⟩
  have hb := kp.Blk h id
  have hltW := hb.lt
  by_cases hlt256 : k < 256
  · have c1 : decide ((k : Int) < 256) = true := decide_eq_true (by omega)
    have hcell : rdc W g k = some (.bool (set.getD k false)) := by rw [hb.rdc]; exact bools_get _ _ (by rw [hs]; omega)
    have hsucc := bytesK_succ set (!b) k
    have hnl := bytesK_len set (!b) k
    repeat (first | refine qS ?_ | refine qB ?_ | refine qT rfl ?_ | refine qF rfl ?_ | ((first | refine qR rfl ?_ | refine qK ?_ | refine qE ?_ | refine qW ?_ | refine qM ?_); try simp -dsimp (maxSteps := 2000000) (disch := first | omega | (simp only [qZ] <;> omega) | fail) only [push_cast, ↓qP, ↓reduceIte, seval, f8, f9, c1]) | (refine qA ?_ ?_; (first | omega | (simp only [qL]; omega) | (simp only [qD] at *; omega))))
    refine Wp.draw [0, 0, 2, 6, 1, 31] [] (.op 0 false false [] <| .op 1 false false [] <| .op 2 false false [] <| .op 3 false false [] <| .op 4 false false [] <| .op 5 false false [] <| .nil) mixed (by kernel_rfl) ?_
    simp -dsimp (maxSteps := 2000000) (disch := first | omega | (simp only [qZ] <;> omega) | fail) only [push_cast, ↓qP, ↓reduceIte, seval, f8, f9, hcell]
    refine ⟨by omega, ?_⟩
    have hq : (set.getD k false != !b) = (set.getD k false == b) := by cases set.getD k false <;> cases b <;> rfl
    rw [hq] at hsucc
    rcases Bool.eq_false_or_eq_true (set.getD k false == b) with hc | hc
    · rw [if_pos hc] at hsucc
      refine Sm.out ?_
      repeat (first | refine qS ?_ | refine qB ?_ | refine qT rfl ?_ | refine qF rfl ?_ | ((first | refine qR rfl ?_ | refine qK ?_ | refine qE ?_ | refine qW ?_ | refine qM ?_); try simp -dsimp (maxSteps := 2000000) (disch := first | omega | (simp only [qZ] <;> omega) | fail) only [push_cast, ↓qP, ↓reduceIte, seval, f1, f5, hcell, hc]) | (refine qA ?_ ?_; (first | omega | (simp only [qL]; omega) | (simp only [qD] at *; omega))))
      refine V_append (m := 1) _ _ _ rfl mk_63 rfl (hown.drew.alloc _) rfl [.int .u8 k] ?r rfl (by omega) (by omega) ?kk
      case r => simp -dsimp (maxSteps := 2000000) (disch := first | omega | (simp only [qZ] <;> omega) | fail) only [push_cast, ↓qP, ↓reduceIte, seval]
      case kk =>
        intro A' cap' w3 hown' hgrow hat
        have kp2 : Kp (fun _ => False) w w3 := (kp.drew.alloc _).grown hgrow (fun q hq hl => by have := hnew q hq; omega)
        have hu : by8s [UInt8.ofNat k] = [.int .u8 k] := by simp [by8s, by8]; omega
        refine Sm.out ?_
        repeat (first | refine qS ?_ | refine qB ?_ | refine qT rfl ?_ | refine qF rfl ?_ | ((first | refine qR rfl ?_ | refine qK ?_ | refine qE ?_ | refine qW ?_ | refine qM ?_); try simp -dsimp (maxSteps := 2000000) (disch := first | omega | (simp only [qZ] <;> omega) | fail) only [push_cast, ↓qP, ↓reduceIte, seval, f1, f5, f8, f9]) | (refine qA ?_ ?_; (first | omega | (simp only [qL]; omega) | (simp only [qD] at *; omega))))
        refine Again.mk (k + 1) ⟨A', n + 1, cap', by simp [upd, f1], by simp [upd], by simp [upd, f8], by simp [upd], by omega, ?_, by rw [hsucc]; simp; omega, ?_, kp2⟩ (by omega)
        · rw [hsucc, by8s_append, hu]; exact hown'
        · intro q hq
          rcases hat with h | h
          · exact hnew q (h ▸ hq)
          · rw [h] at hq; simp at hq; subst hq; have := kp.size; simp; omega
    · rw [if_neg (by rw [hc]; simp)] at hsucc
      refine Sm.out ?_
      repeat (first | refine qS ?_ | refine qB ?_ | refine qT rfl ?_ | refine qF rfl ?_ | ((first | refine qR rfl ?_ | refine qK ?_ | refine qE ?_ | refine qW ?_ | refine qM ?_); try simp -dsimp (maxSteps := 2000000) (disch := first | omega | (simp only [qZ] <;> omega) | fail) only [push_cast, ↓qP, ↓reduceIte, seval, f1, f5, hcell, hc, f9]) | (refine qA ?_ ?_; (first | omega | (simp only [qL]; omega) | (simp only [qD] at *; omega))))
      exact Again.mk (k + 1) ⟨A, n, cap, by simp [upd, f1], by simp [upd, f5], by simp [upd, f8], by simp [upd], by omega, by rw [hsucc]; exact hown.drew, by rw [hsucc]; exact hn, hnew, kp.drew⟩ (by omega)
  · have c1 : decide ((k : Int) < 256) = false := decide_eq_false (by omega)
    have hkb : bytesK set (!b) k = bytesOf set (!b) := by rw [show k = 256 by omega]; rfl
    rw [hkb] at hown hn
    repeat (first | refine qS ?_ | refine qB ?_ | refine qT rfl ?_ | refine qF rfl ?_ | ((first | refine qR rfl ?_ | refine qK ?_ | refine qE ?_ | refine qW ?_ | refine qM ?_); try simp -dsimp (maxSteps := 2000000) (disch := first | omega | (simp only [qZ] <;> omega) | fail) only [push_cast, ↓qP, ↓reduceIte, seval, f5, f9, c1]) | (refine qA ?_ ?_; (first | omega | (simp only [qL]; omega) | (simp only [qD] at *; omega))))
    refine V_str 63 9 _ rfl se_63 ik_5 isStr_9 (bytesOf set (!b)) rfl hn (by8s_str hown hn) ?_
    refine Sm.out ?_
    repeat (first | refine qS ?_ | refine qB ?_ | refine qT rfl ?_ | refine qF rfl ?_ | ((first | refine qR rfl ?_ | refine qK ?_ | refine qE ?_ | refine qW ?_ | refine qM ?_); try simp -dsimp (maxSteps := 2000000) (disch := first | omega | (simp only [qZ] <;> omega) | fail) only [push_cast, ↓qP, ↓reduceIte, seval]) | (refine qA ?_ ?_; (first | omega | (simp only [qL]; omega) | (simp only [qD] at *; omega))))
    exact Ret.mk ⟨rfl, kp⟩
end
end Go.Proofs.Ytddichibegppjaa

/- The program's reader: an item of a set. -/
namespace Go.Proofs.Ytddichibegppjaa
open Go Go.VC Go.RowKit

theorem index_end (l : List UInt8) : ∀ (k p : Nat), l.length ≤ p + k → Lib.index (l.drop p) [58, 93] = if clEnd l k p + 1 < l.length then ((clEnd l k p - p : Nat) : Int) else -1
  | k, p, hk => by
    rcases Nat.lt_or_ge p l.length with hp | hp
    case inr =>
      have hc : clEnd l k p = p := by
        cases k with
        | zero => rfl
        | succ k => unfold clEnd; rw [decide_eq_false (by omega : ¬ p + 1 < l.length)]; rfl
      rw [List.drop_of_length_le hp, hc, if_neg (by omega)]; rfl
    obtain ⟨k, rfl⟩ : ∃ k', k = k' + 1 := ⟨k - 1, by omega⟩
    have hpre := pre2 l p 58 93
    unfold Lib.hasPrefix at hpre
    have hdr := drop_at hp
    have hge := clEnd_le l k (p + 1)
    rw [hdr] at hpre ⊢
    unfold Lib.index
    have hlow := Lib.index_ge (l.drop (p + 1)) [58, 93]
    rcases Nat.lt_or_ge (p + 1) l.length with hp1 | hp1
    · have h1 : hasAt l p 58 = (byteAt l p == 58) := hasAt_eq _ hp
      have h2 : hasAt l (p + 1) 93 = (byteAt l (p + 1) == 93) := hasAt_eq _ hp1
      rw [h1, h2] at hpre
      cases hm : (byteAt l p == 58 && byteAt l (p + 1) == 93) with
      | true =>
        rw [hm] at hpre
        have hc : clEnd l (k + 1) p = p := by unfold clEnd; rw [hm, decide_eq_true hp1]; rfl
        rw [if_pos hpre, hc, if_pos hp1, Nat.sub_self]; rfl
      | false =>
        rw [hm] at hpre
        have hc : clEnd l (k + 1) p = clEnd l k (p + 1) := by
          show (if (decide (p + 1 < l.length) && !(byteAt l p == 58 && byteAt l (p + 1) == 93)) = true then _ else _) = _
          rw [hm, decide_eq_true hp1]; rfl
        have ih := index_end l k (p + 1) (by omega)
        rw [if_neg (by rw [hpre]; simp), hc, ih]
        by_cases hf : clEnd l k (p + 1) + 1 < l.length
        · simp only [if_pos hf]
          rw [if_neg (by rw [beq_iff_eq]; omega)]; omega
        · simp only [if_neg hf]; rfl
    · have hc : clEnd l (k + 1) p = p := by unfold clEnd; rw [decide_eq_false (by omega : ¬ p + 1 < l.length)]; rfl
      have hm : hasAt l (p + 1) 93 = false := by unfold hasAt; rw [decide_eq_false (by omega)]; rfl
      rw [hm, Bool.and_false] at hpre
      rw [if_neg (by rw [hpre]; simp), hc, List.drop_of_length_le hp1]
      rw [if_neg (show ¬ p + 1 < l.length by omega)]; rfl
theorem cut_end (l : List UInt8) (p : Nat) : Lib.cut (l.drop p) [58, 93] =
    if clEnd l l.length p + 1 < l.length then ((l.drop p).take (clEnd l l.length p - p), l.drop (clEnd l l.length p + 2), true) else (l.drop p, [], false) := by
  unfold Lib.cut
  rw [index_end l l.length p (by omega)]
  have hge := clEnd_le l l.length p
  by_cases h : clEnd l l.length p + 1 < l.length
  · rw [if_pos h, if_pos h, if_pos (by omega), Int.toNat_natCast, List.drop_drop]
    congr 3
    simp; omega
  · rw [if_neg h, if_neg h, if_neg (by decide)]

/-- The library's own number. -/
def MaxL (w : World) : Prop := ∃ m, w.cell? ⟨1, 0, none⟩ = some (.int .i64 m)
theorem MaxL.kp {S : Nat → Prop} {w w' : World} (h : MaxL w) (k : Kp S w w') (hs : ¬ S 1) : MaxL w' := by
  obtain ⟨m, h⟩ := h
  have hlt : 1 < w.heap.size := rdc_lt (b := 1) (i := 0) h
  exact ⟨m, (k.rdc (b := 1) (i := 0) hlt hs).trans h⟩
section
variable {w : World} {a g : Nat} {l : List UInt8} {i : Nat} {d : Int} {set : List Bool}

theorem item_any {s : S3} (h : Rd w a l s.i d) (hg : Blk w g 149 (bools set)) (hset : set.length = 256) (ha : a ≠ 1) (hg1 : g ≠ 1) (hM : MaxL w) (hs : s.f = 0) (hd : s.d = d) (hi : s.i < l.length) (hl : l.length ≤ 1000000) : Calls Try.prog 111 #[.pointer (some ⟨a, 0, none⟩), .pointer (some ⟨g, 0, none⟩)] w fun e w' =>
    ((item3 l s set).2.2.f = 0 ∧ e = .returned (.tuple #[.int .u8 ((item3 l s set).1.1.toNat : Int), .bool (item3 l s set).1.2]) ∧ Rd w' a l (item3 l s set).2.2.i d ∧ Blk w' g 149 (bools (item3 l s set).2.1) ∧ Kp (fun b => b = a ∨ b = g) w w') ∨
    ((item3 l s set).2.2.f ≠ 0 ∧ ∃ k : Int, e = .panicked (flt k) ∧ 1 ≤ k ∧ k ≤ 5 ∧ Kp (fun b => b = a ∨ b = g) w w') := by
  have hag : a ≠ g := h.blk.ne hg (by decide)
  have toA : ∀ {u v : World}, Kp (fun b => b = a) u v → Kp (fun b => b = a ∨ b = g) u v := fun k => k.mono fun _ _ h => .inl h
  have toG : ∀ {u v : World}, Kp (fun b => b = g) u v → Kp (fun b => b = a ∨ b = g) u v := fun k => k.mono fun _ _ h => .inr h
  have to0 : ∀ {u v : World}, Kp (fun _ => False) u v → Kp (fun b => b = a ∨ b = g) u v := fun k => k.mono fun _ _ h => h.elim
  refine enter (n := 52) (args := [.pointer (some ⟨a, 0, none⟩), .pointer (some ⟨g, 0, none⟩)]) Try.func111 rfl rfl rfl (by simp) ?_
  repeat (first | refine qS ?_ | refine qB ?_ | refine qT rfl ?_ | refine qF rfl ?_ | ((first | refine qR rfl ?_ | refine qK ?_ | refine qE ?_ | refine qW ?_ | refine qM ?_); try simp -dsimp (maxSteps := 2000000) (disch := first | omega | (simp only [qZ] <;> omega) | fail) only [push_cast, ↓qP, ↓reduceIte, seval]) | (refine qA ?_ ?_; (first | omega | (simp only [qL]; omega) | (simp only [qD] at *; omega))))
  refine CallV.of isCall_89 (take_two h 91 58) ?_
  rintro _ w1 ⟨rfl, h1, k1⟩
  have hM1 := hM.kp k1 (fun e => ha e.symm)
  have hg1' := k1.Blk hg (fun e => hag e.symm)
  have hcond : (byteAt l s.i == 91 && decide (s.i + 1 < l.length) && byteAt l (s.i + 1) == 58) = (hasAt l s.i 91 && hasAt l (s.i + 1) 58) := by
    rw [hasAt_eq 91 hi]; unfold hasAt; rw [Bool.and_assoc]
  cases hc : (hasAt l s.i 91 && hasAt l (s.i + 1) 58) with
  | true =>
    rw [hc] at h1 hcond
    have h1 : Rd w1 a l (s.i + 2) d := h1
    have hb1 := h1.blk.rdc
    have hz1 := h1.blk.fz
    obtain ⟨E, hE⟩ : ∃ E, E = clEnd l l.length (s.i + 2) := ⟨_, rfl⟩
    have hcut := cut_end l (s.i + 2)
    rw [← hE] at hcut
    have hitem : item3 l s set = (if E + 1 ≥ l.length then ((0, false), set, s.fail 2) else if (in3 ((l.drop (s.i + 2)).take (E - (s.i + 2))) 0).2 then ((0, false), clPut ((l.drop (s.i + 2)).take (E - (s.i + 2))) set, { s with i := E + 2 }) else ((0, false), set, s.fail 2)) := by
      unfold item3; rw [hcond, if_pos rfl, hE]
    rw [hitem]
    refine Sm.out ?_
    repeat (first | refine qS ?_ | refine qB ?_ | refine qT rfl ?_ | refine qF rfl ?_ | ((first | refine qR rfl ?_ | refine qK ?_ | refine qE ?_ | refine qW ?_ | refine qM ?_); try simp -dsimp (maxSteps := 2000000) (disch := first | omega | (simp only [qZ] <;> omega) | fail) only [push_cast, ↓qP, ↓reduceIte, seval, hb1]) | (refine qA ?_ ?_; (first | omega | (simp only [qL]; omega) | (simp only [qD] at *; omega))))
    obtain ⟨m, hm⟩ := hM1
    refine CallV.of isCall_114 (Try.strings_Cut _ _ m _ (by rw [B_size]; simp; omega) hm) ?_
    rintro _ w2 ⟨rfl, n, rfl⟩
    rw [B_toList, B_toList, hcut]
    have h2 : Rd (w1.drewN n) a l (s.i + 2) d := h1
    have hg2 : Blk (w1.drewN n) g 149 (bools set) := hg1'
    have k2 : Kp (fun _ => False) w1 (w1.drewN n) := ⟨rfl, rfl, rfl, Nat.le_refl _, fun _ _ _ => rfl⟩
    have hb2 := h2.blk.rdc
    have hz2 := h2.blk.fz
    by_cases hf : E + 1 < l.length
    · rw [if_pos hf, if_neg (by omega)]
      refine Sm.out ?_
      repeat (first | refine qS ?_ | refine qB ?_ | refine qT rfl ?_ | refine qF rfl ?_ | ((first | refine qR rfl ?_ | refine qK ?_ | refine qE ?_ | refine qW ?_ | refine qM ?_); try simp -dsimp (maxSteps := 2000000) (disch := first | omega | (simp only [qZ] <;> omega) | fail) only [push_cast, ↓qP, ↓reduceIte, seval, hb2]) | (refine qA ?_ ?_; (first | omega | (simp only [qL]; omega) | (simp only [qD] at *; omega))))
      refine CallV.of isCall_115 (class_any hg2 hset _) ?_
      rintro _ w3 ⟨rfl, hg3, k3⟩
      have h3 : Rd w3 a l (s.i + 2) d := h2.keep k3 hag
      have hb3 := h3.blk.rdc
      have hz3 := h3.blk.fz
      have hlt3 := h3.lt
      cases hin : (in3 ((l.drop (s.i + 2)).take (E - (s.i + 2))) 0).2 with
      | true =>
        rw [hin] at hg3
        refine Sm.out ?_
        repeat (first | refine qS ?_ | refine qB ?_ | refine qT rfl ?_ | refine qF rfl ?_ | ((first | refine qR rfl ?_ | refine qK ?_ | refine qE ?_ | refine qW ?_ | refine qM ?_); try simp -dsimp (maxSteps := 2000000) (disch := first | omega | (simp only [qZ] <;> omega) | fail) only [push_cast, ↓qP, ↓reduceIte, seval, hb3, hz3]) | (refine qA ?_ ?_; (first | omega | (simp only [qL]; omega) | (simp only [qD] at *; omega))))
        have kk := ((toA k1).trans (to0 k2)).trans (toG k3)
        exact Ret.mk (.inl ⟨hs, rfl, h3.blk.set 0 _, Blk.far (p := ⟨a, 0, none⟩) hg3 (fun e => hag e.symm) _, kk.setCell (fun _ => .inl rfl) _⟩)
      | false =>
        refine Sm.out ?_
        repeat (first | refine qS ?_ | refine qB ?_ | refine qT rfl ?_ | refine qF rfl ?_ | ((first | refine qR rfl ?_ | refine qK ?_ | refine qE ?_ | refine qW ?_ | refine qM ?_); try simp -dsimp (maxSteps := 2000000) (disch := first | omega | (simp only [qZ] <;> omega) | fail) only [push_cast, ↓qP, ↓reduceIte, seval]) | (refine qA ?_ ?_; (first | omega | (simp only [qL]; omega) | (simp only [qD] at *; omega))))
        exact Pan.mk (.inr ⟨fail_f _ (by decide), 2, rfl, by decide, by decide, ((toA k1).trans (to0 k2)).trans (toG k3)⟩)
    · rw [if_neg hf, if_pos (by omega)]
      refine Sm.out ?_
      repeat (first | refine qS ?_ | refine qB ?_ | refine qT rfl ?_ | refine qF rfl ?_ | ((first | refine qR rfl ?_ | refine qK ?_ | refine qE ?_ | refine qW ?_ | refine qM ?_); try simp -dsimp (maxSteps := 2000000) (disch := first | omega | (simp only [qZ] <;> omega) | fail) only [push_cast, ↓qP, ↓reduceIte, seval]) | (refine qA ?_ ?_; (first | omega | (simp only [qL]; omega) | (simp only [qD] at *; omega))))
      exact Pan.mk (.inr ⟨fail_f _ (by decide), 2, rfl, by decide, by decide, (toA k1).trans (to0 k2)⟩)
  | false =>
  rw [hc] at h1 hcond
  have h1 : Rd w1 a l s.i d := h1
  refine Sm.out ?_
  repeat (first | refine qS ?_ | refine qB ?_ | refine qT rfl ?_ | refine qF rfl ?_ | ((first | refine qR rfl ?_ | refine qK ?_ | refine qE ?_ | refine qW ?_ | refine qM ?_); try simp -dsimp (maxSteps := 2000000) (disch := first | omega | (simp only [qZ] <;> omega) | fail) only [push_cast, ↓qP, ↓reduceIte, seval]) | (refine qA ?_ ?_; (first | omega | (simp only [qL]; omega) | (simp only [qD] at *; omega))))
  refine CallV.of isCall_89 (take_one h1 92) ?_
  rintro _ w2 ⟨rfl, h2, k2⟩
  have hg2' := k2.Blk hg1' (fun e => hag e.symm)
  rw [hasAt_eq 92 hi] at h2 ⊢
  cases hc2 : byteAt l s.i == 92 with
  | true =>
    rw [hc2] at h2
    have h2 : Rd w2 a l (s.i + 1) d := h2
    have hitem : item3 l s set = (((escape3 l s).1, true), set, (escape3 l s).2) := by unfold item3; rw [hcond, hc2]; rfl
    rw [hitem]
    refine Sm.out ?_
    repeat (first | refine qS ?_ | refine qB ?_ | refine qT rfl ?_ | refine qF rfl ?_ | ((first | refine qR rfl ?_ | refine qK ?_ | refine qE ?_ | refine qW ?_ | refine qM ?_); try simp -dsimp (maxSteps := 2000000) (disch := first | omega | (simp only [qZ] <;> omega) | fail) only [push_cast, ↓qP, ↓reduceIte, seval]) | (refine qA ?_ ?_; (first | omega | (simp only [qL]; omega) | (simp only [qD] at *; omega))))
    refine CallV.of isCall_106 (escaped_any h2 hs hd (by omega) hl) ?_
    rintro e w3 (⟨q1, rfl, h3, k3⟩ | ⟨q1, k, rfl, b1, b2, k3⟩)
    · refine Sm.out ?_
      repeat (first | refine qS ?_ | refine qB ?_ | refine qT rfl ?_ | refine qF rfl ?_ | ((first | refine qR rfl ?_ | refine qK ?_ | refine qE ?_ | refine qW ?_ | refine qM ?_); try simp -dsimp (maxSteps := 2000000) (disch := first | omega | (simp only [qZ] <;> omega) | fail) only [push_cast, ↓qP, ↓reduceIte, seval]) | (refine qA ?_ ?_; (first | omega | (simp only [qL]; omega) | (simp only [qD] at *; omega))))
      exact Ret.mk (.inl ⟨q1, rfl, h3, k3.Blk hg2' (fun e => hag e.symm), (toA k1).trans ((toA k2).trans (toA k3))⟩)
    · refine Sm.out ?_
      repeat (first | refine qS ?_ | refine qB ?_ | refine qT rfl ?_ | refine qF rfl ?_ | ((first | refine qR rfl ?_ | refine qK ?_ | refine qE ?_ | refine qW ?_ | refine qM ?_); try simp -dsimp (maxSteps := 2000000) (disch := first | omega | (simp only [qZ] <;> omega) | fail) only [push_cast, ↓qP, ↓reduceIte, seval]) | (refine qA ?_ ?_; (first | omega | (simp only [qL]; omega) | (simp only [qD] at *; omega))))
      exact Pan.mk (.inr ⟨q1, k, rfl, b1, b2, (toA k1).trans ((toA k2).trans (toA k3))⟩)
  | false =>
    rw [hc2] at h2
    have h2 : Rd w2 a l s.i d := h2
    have hitem : item3 l s set = ((byteAt l s.i, true), set, s.on) := by unfold item3; rw [hcond, hc2]; rfl
    rw [hitem]
    have hb2 := h2.blk.rdc
    have hz2 := h2.blk.fz
    have hlt2 := h2.lt
    have hgg := getD_drop l s.i 0
    have hll : (l.drop s.i).length = l.length - s.i := by simp
    have hl0 : 0 < (l.drop s.i).length := by omega
    have hli : ((l.length : Int) - (s.i : Int)).toNat = l.length - s.i := by omega
    have hdd : (l.drop s.i).drop 1 = l.drop (s.i + 1) := by rw [List.drop_drop]
    have htt : ((l.drop (s.i + 1)).take (l.length - s.i - 1)) = l.drop (s.i + 1) := List.take_of_length_le (by simp; omega)
    refine Sm.out ?_
    repeat (first | refine qS ?_ | refine qB ?_ | refine qT rfl ?_ | refine qF rfl ?_ | ((first | refine qR rfl ?_ | refine qK ?_ | refine qE ?_ | refine qW ?_ | refine qM ?_); try simp -dsimp (maxSteps := 2000000) (disch := first | omega | (simp only [qZ] <;> omega) | fail) only [push_cast, ↓qP, ↓reduceIte, seval, hb2, hz2, hgg, hll, hli, hdd, htt]) | (refine qA ?_ ?_; (first | omega | (simp only [qL]; omega) | (simp only [qD] at *; omega))))
    exact Ret.mk (.inl ⟨hs, rfl, h2.blk.set 0 _, Blk.far (p := ⟨a, 0, none⟩) hg2' (fun e => hag e.symm) _, ((toA k1).trans (toA k2)).setCell (fun _ => .inl rfl) _⟩)
end
end Go.Proofs.Ytddichibegppjaa
