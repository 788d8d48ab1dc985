/- The reference's reader of expressions: branches. -/
import Derived.Test.YtddichibegppjaaZaa77479
import Derived.Test.YtddichibegppjaaVs
import Derived.Test.YtddichibegppjaaP9
import Derived.Test.YtddichibegppjaaVu
set_option linter.unusedSimpArgs false
set_option linter.unusedVariables false
set_option maxRecDepth 100000
set_option maxHeartbeats 8000000
attribute [local irreducible] Go.VC.OpV Go.VC.CallV Go.VC.Wp Go.VC.post
namespace Go.Proofs.Ytddichibegppjaa
open Go Go.VC

section
variable {a : Nat} {l : List UInt8} {s s' : S3} {w w1 w2 : World}

theorem Ls.first {e : Re} {cs : List Value} {m : Nat} (h2 : At3 w1 a l s) (hr : Blk w1 w.heap.size 33 zRe) (hk : Kp (· = a) w w1) (hlt : a < w.heap.size) (hre : IsRe w1 (fun b => w.heap.size < b ∧ b < w1.heap.size) e cs) (hm : m = w1.heap.size) :
    Ls w a l s [e] (some ⟨m, 0, none⟩) 1 1 (m + 1) (w1.alloc (.cells cs.toArray 33)) := by
  have hl := hr.lt
  have hk2 : Kp (fun _ => False) w1 (w1.alloc (.cells cs.toArray 33)) := (Kp.refl _ w1).alloc _
  subst hm
  have hle := hre.len
  exact ⟨h2.alloc _, hr.alloc _, ⟨cs, Own.mk' (cur := cs.toArray) (Blk.new w1 33 cs) (Nat.le_refl _) (by decide) (by simp [hle]) (List.take_of_length_le (Nat.le_of_eq hle)), cs, [], by simp, hre.Kp hk2 (fun _ _ => id) (fun b hb => ⟨hb.1, by have := hb.2; omega, by simp [bk]; have := hb.2; omega⟩), rfl⟩, rfl,
    by intro g hg; simp only [bk, Option.map_some] at hg; injection hg with hg; subst hg; exact ⟨hl, Nat.lt_succ_self _⟩, hk.alloc _, hlt, by omega, by simp⟩

theorem branches3_any (k : Nat) (hl : l.length ≤ 1000000) (ih : ∀ j, j < k → CP l a j) : CB l a k := by
  intro s w h hs hex
  obtain ⟨k, rfl⟩ : ∃ k', k = k' + 1 := by
    cases k with
    | zero => obtain ⟨r, hr⟩ := hex; simp [branches3] at hr
    | succ k => exact ⟨k, rfl⟩
  have hps : branches3 l (k + 1) s = match pieces3 l k s with
    | none => none
    | some (e, s1) => match branch3 l k [e] s1 with
      | none => none
      | some ([e], s2) => some (e, s2)
      | some (es, s2) => some (.node opAlt [] es 0 0, s2) := by simp only [branches3]; rfl
  rw [hps] at hex ⊢
  obtain ⟨⟨e0, s0⟩, hp0⟩ : ∃ R, pieces3 l k s = some R := by
    cases hp : pieces3 l k s with
    | none => rw [hp] at hex; obtain ⟨r, hr⟩ := hex; cases hr
    | some R => exact ⟨R, rfl⟩
  rw [hp0] at hex ⊢
  simp only [] at hex ⊢
  obtain ⟨R, hR⟩ : ∃ R, branch3 l k [e0] s0 = some R := by
    cases hp : branch3 l k [e0] s0 with
    | none => rw [hp] at hex; obtain ⟨r, hr⟩ := hex; cases hr
    | some R => exact ⟨R, rfl⟩
  rw [hR]
  clear hex hps
  have hlt := h.lt
  obtain ⟨m0, _⟩ := (reads_ok l k).2.2.2.1 _ _ _ hs hp0
  have hs0 := m0.st hs
  refine enter (n := 34) (args := [.pointer (some ⟨a, 0, none⟩)]) Try.func49 rfl rfl rfl (by simp) ?_
  refine Wp.seq (Wp.region rfl ?_)
  simp -dsimp (maxSteps := 2000000) (disch := first | omega | (simp only [qZ] <;> omega) | fail) only [push_cast, ↓qP, ↓reduceIte, Nat.reduceEqDiff, Nat.reduceAdd, Nat.reduceMul, Nat.reduceSub, Nat.reduceLeDiff, Int.reduceToNat, reduceCtorEq]
  refine Wp.seq (Wp.region rfl ?_)
  simp -dsimp (maxSteps := 2000000) (disch := first | omega | (simp only [qZ] <;> omega) | fail) only [push_cast, ↓qP, ↓reduceIte, Nat.reduceEqDiff, Nat.reduceAdd, Nat.reduceMul, Nat.reduceSub, Nat.reduceLeDiff, Int.reduceToNat, reduceCtorEq]
  refine CallV.of isCall_70 (ih k (by omega) s (w.alloc (.cells zRe.toArray 33)) (h.alloc _) hs ⟨_, hp0⟩) ?_
  rintro _ w1 ⟨t', s1', cs, he, rfl, hre, h1, hk1⟩
  rw [hp0] at he
  injection he with he
  injection he with he1 he2
  subst he1; subst he2
  have hsz : (w.alloc (.cells zRe.toArray 33)).heap.size = w.heap.size + 1 := by simp
  have hk2 : Kp (· = a) w w1 := ((Kp.refl (· = a) w).alloc (.cells zRe.toArray 33)).trans hk1
  have hL := Ls.first (w := w) h1 (hk1.Blk (Blk.new w 33 zRe) (Nat.ne_of_gt hlt)) hk2 hlt (IsRe.keep (fun b hb => ⟨by have := hb.1; omega, hb.2⟩) (fun b _ i n vs hr => hr) _ _ hre) rfl
  obtain ⟨o, se, A1, c1, c2, lo1, hi1', rfl⟩ := hre.form
  clear h1 hk1 hk2 hre hsz
  refine Sm.out ?_
  repeat (first | ((fail_if_success (first | refine qX (n := 0) ?_)); refine qS ?_) | refine qB ?_ | refine qT rfl ?_ | refine qF rfl ?_ | ((first | refine qR rfl ?_ | refine qK ?_ | refine qE ?_ | refine qW ?_ | refine qM ?_); try simp -dsimp (maxSteps := 2000000) (disch := first | omega | (simp only [qZ] <;> omega) | fail) only [push_cast, ↓qP, ↓reduceIte, Nat.reduceEqDiff, Nat.reduceAdd, Nat.reduceMul, Nat.reduceSub, Nat.reduceLeDiff, Int.reduceToNat, reduceCtorEq]) | (refine qA ?_ ?_; (first | omega | (simp only [qL]; omega) | (simp only [qD] at *; omega))))
  refine Wp.cutQ (fun F' w' => F' 2 = .pointer (some ⟨w.heap.size, 0, none⟩) ∧ ∃ es s1 A n cap N, F' 3 = .slice A n cap ∧ R = (es, s1) ∧ Ls w a l s1 es A n cap N w') ?_ ?_
  · repeat (first | refine qS ?_ | refine qB ?_ | refine qT rfl ?_ | refine qF rfl ?_ | ((first | refine qR rfl ?_ | refine qK ?_ | refine qE ?_ | refine qW ?_ | refine qM ?_); try simp -dsimp (maxSteps := 2000000) (disch := first | omega | (simp only [qZ] <;> omega) | fail) only [push_cast, ↓qP, ↓reduceIte, Nat.reduceEqDiff, Nat.reduceAdd, Nat.reduceMul, Nat.reduceSub, Nat.reduceLeDiff, Int.reduceToNat, reduceCtorEq]) | (refine qA ?_ ?_; (first | omega | (simp only [qL]; omega) | (simp only [qD] at *; omega))))
    refine Wp.loop (α := Nat) (fun j F w2 => j ≤ k ∧ F 0 = .pointer (some ⟨a, 0, none⟩) ∧ F 2 = .pointer (some ⟨w.heap.size, 0, none⟩) ∧ ∃ es s1 A n cap N, F 3 = .slice A n cap ∧ Ls w a l s1 es A n cap N w2 ∧ St3 l s1 ∧ (s1.f = 0 → es.length ≤ s1.i + 1) ∧ Hide (branch3 l j es s1 = some R)) (fun j => j) k
      ⟨Nat.le_refl _, by simp [upd, arg], by simp [upd], [e0], s0, _, _, _, _, by simp [upd], hL, hs0, fun _ => by simp, ⟨hR⟩⟩ ?_
    clear h hs hR hL hs0 m0
    rintro j F w2 ⟨hjk, f0, f2, es, s1, A, n, cap, N, f3, h1, hs, hei, hpc⟩
    obtain ⟨j, rfl⟩ : ∃ j', j = j' + 1 := by
      cases j with
      | zero => have := hpc.out; simp [branch3] at this
      | succ j => exact ⟨j, rfl⟩
    have hpc1 := hpc.out
    simp only [branch3] at hpc1
    clear hpc
    have e124 : (((byteAt l s1.i).toNat : Int) == 124) = (byteAt l s1.i == 124) := u8_eq' _ 124
    repeat (first | refine qS ?_ | refine qB ?_ | refine qT rfl ?_ | refine qF rfl ?_ | ((first | refine qR rfl ?_ | refine qK ?_ | refine qE ?_ | refine qW ?_ | refine qM ?_); try simp -dsimp (maxSteps := 2000000) (disch := first | omega | (simp only [qZ] <;> omega) | fail) only [push_cast, ↓qP, ↓reduceIte, Nat.reduceEqDiff, Nat.reduceAdd, Nat.reduceMul, Nat.reduceSub, Nat.reduceLeDiff, Int.reduceToNat, reduceCtorEq, f0]) | (refine qA ?_ ?_; (first | omega | (simp only [qL]; omega) | (simp only [qD] at *; omega))))
    refine CallV.of isCall_71 (more3_any h1.at_) ?_
    rintro _ _ ⟨rfl, rfl⟩
    rcases Bool.eq_false_or_eq_true (more3 l s1) with hm | hm
    · obtain ⟨hf0, hi1⟩ := (more3_iff l s1).1 hm
      refine Sm.out ?_
      repeat (first | refine qS ?_ | refine qB ?_ | refine qT rfl ?_ | refine qF rfl ?_ | ((first | refine qR rfl ?_ | refine qK ?_ | refine qE ?_ | refine qW ?_ | refine qM ?_); try simp -dsimp (maxSteps := 2000000) (disch := first | omega | (simp only [qZ] <;> omega) | fail) only [push_cast, ↓qP, ↓reduceIte, Nat.reduceEqDiff, Nat.reduceAdd, Nat.reduceMul, Nat.reduceSub, Nat.reduceLeDiff, Int.reduceToNat, reduceCtorEq, f0, hm]) | (refine qA ?_ ?_; (first | omega | (simp only [qL]; omega) | (simp only [qD] at *; omega))))
      refine CallV.of isCall_72 (peek3 h1.at_.drew hi1) ?_
      rintro _ _ ⟨rfl, rfl⟩
      rcases Bool.eq_false_or_eq_true (byteAt l s1.i == 124) with h124 | h124
      · rw [if_pos (by rw [hm, h124]; rfl)] at hpc1
        have hei' := hei hf0
        clear hei
        obtain ⟨⟨e, s2⟩, hp⟩ : ∃ p, pieces3 l j s1.on = some p := by
          cases hp : pieces3 l j s1.on with
          | none => rw [hp] at hpc1; cases hpc1
          | some p => exact ⟨p, rfl⟩
        rw [hp] at hpc1
        simp only [] at hpc1
        have h2 := h1.drew.drew
        have hlta := h2.at_.lt
        have hs2 := hs.2.1
        have hs3 := hs.2.2.2 hf0
        have on1 : Mv l s1 s1.on := ⟨rfl, by show ((s1.i + 1 : Nat) : Int) + _ ≤ _; omega, fun h => ⟨h, by show s1.i ≤ s1.i + 1; omega, by show s1.i + 1 ≤ _; omega⟩⟩
        have hs4 := on1.st hs
        obtain ⟨m1, _⟩ := (reads_ok l j).2.2.2.1 _ _ _ hs4 hp
        refine Sm.out ?_
        repeat (first | refine qS ?_ | refine qB ?_ | refine qT rfl ?_ | refine qF rfl ?_ | ((first | refine qR rfl ?_ | refine qK ?_ | refine qE ?_ | refine qW ?_ | refine qM ?_); try simp -dsimp (maxSteps := 2000000) (disch := first | omega | (simp only [qZ] <;> omega) | fail) only [push_cast, ↓qP, ↓reduceIte, Nat.reduceEqDiff, Nat.reduceAdd, Nat.reduceMul, Nat.reduceSub, Nat.reduceLeDiff, Int.reduceToNat, reduceCtorEq, f0, f2, f3, e124, h124, h1.at_.rdc, h1.at_.fz]) | (refine qA ?_ ?_; (first | omega | (simp only [qL]; omega) | (simp only [qD] at *; omega))))
        have h3 : Ls w a l s1.on es A n cap N (w2.drew.drew.setCell ⟨a, 1, none⟩ (.int .i64 ((s1.i : Int) + 1))) := h2.seta (h2.at_.set 1 _)
        clear h1 h2 hlta
        generalize (w2.drew.drew.setCell ⟨a, 1, none⟩ (.int .i64 ((s1.i : Int) + 1))) = w3 at *
        refine CallV.of isCall_70 (ih j (by omega) s1.on w3 h3.at_ hs4 ⟨_, hp⟩) ?_
        rintro _ w4 ⟨t', s1', cs, he, rfl, hre, h4, k4⟩
        rw [hp] at he
        injection he with he
        injection he with he1 he2
        subst he1; subst he2
        have h5 := h3.keep h4 k4
        have hN2 := h3.N2
        obtain ⟨xs, hown, hel⟩ := h5.own
        obtain ⟨o, se, A1, c1, c2, lo1, hi1', rfl⟩ := hre.form
        have hlta := h5.at_.lt
        have hn := h5.n
        clear h3 h4 k4 hp
        refine Sm.out ?_
        repeat (first | refine qS ?_ | refine qB ?_ | refine qT rfl ?_ | refine qF rfl ?_ | ((first | refine qR rfl ?_ | refine qK ?_ | refine qE ?_ | refine qW ?_ | refine qM ?_); try simp -dsimp (maxSteps := 2000000) (disch := first | omega | (simp only [qZ] <;> omega) | fail) only [push_cast, ↓qP, ↓reduceIte, Nat.reduceEqDiff, Nat.reduceAdd, Nat.reduceMul, Nat.reduceSub, Nat.reduceLeDiff, Int.reduceToNat, reduceCtorEq, f0, f2, f3]) | (refine qA ?_ ?_; (first | omega | (simp only [qL]; omega) | (simp only [qD] at *; omega))))
        refine V_append (m := 1) _ _ _ rfl mk_31 rfl (hown.alloc _) rfl [.string (B o), .string (B se), .slice A1 c1 c2, .int .i64 lo1, .int .i64 hi1'] ?r rfl (by omega) (by omega) ?kk
        case r => simp -dsimp (maxSteps := 2000000) (disch := first | omega | (simp only [qZ] <;> omega) | fail) only [push_cast, ↓qP, ↓reduceIte, Nat.reduceEqDiff, Nat.reduceAdd, Nat.reduceMul, Nat.reduceSub, Nat.reduceLeDiff, Int.reduceToNat, reduceCtorEq]
        case kk =>
          intro A' cap' w8 hown' hgrow hat
          have h9 := h5.append hown hel (IsRe.keep (fun b hb => ⟨by have := hb.1; omega, hb.2⟩) (fun b _ i n vs hr => hr) _ _ hre) hown' hgrow hat
          refine Sm.out ?_
          repeat (first | refine qS ?_ | refine qB ?_ | refine qT rfl ?_ | refine qF rfl ?_ | ((first | refine qR rfl ?_ | refine qK ?_ | refine qE ?_ | refine qW ?_ | refine qM ?_); try simp -dsimp (maxSteps := 2000000) (disch := first | omega | (simp only [qZ] <;> omega) | fail) only [push_cast, ↓qP, ↓reduceIte, Nat.reduceEqDiff, Nat.reduceAdd, Nat.reduceMul, Nat.reduceSub, Nat.reduceLeDiff, Int.reduceToNat, reduceCtorEq, f0, f2, f3]) | (refine qA ?_ ?_; (first | omega | (simp only [qL]; omega) | (simp only [qD] at *; omega))))
          exact Again.mk j ⟨by omega, by simp [upd, f0], by simp [upd, f2], es ++ [e], s2, A', n + 1, cap', _, by simp [upd], h9, m1.st hs4, fun h => by have := (m1.2.2 h).2.1; change s1.i + 1 ≤ _ at this; simp; omega, ⟨hpc1⟩⟩ (by omega)
      · rw [if_neg (by rw [hm, h124]; simp)] at hpc1
        refine Sm.out ?_
        repeat (first | refine qS ?_ | refine qB ?_ | refine qT rfl ?_ | refine qF rfl ?_ | ((first | refine qR rfl ?_ | refine qK ?_ | refine qE ?_ | refine qW ?_ | refine qM ?_); try simp -dsimp (maxSteps := 2000000) (disch := first | omega | (simp only [qZ] <;> omega) | fail) only [push_cast, ↓qP, ↓reduceIte, Nat.reduceEqDiff, Nat.reduceAdd, Nat.reduceMul, Nat.reduceSub, Nat.reduceLeDiff, Int.reduceToNat, reduceCtorEq, f0, e124, h124]) | (refine qA ?_ ?_; (first | omega | (simp only [qL]; omega) | (simp only [qD] at *; omega))))
        exact Mid.mk ⟨by simp [upd, f2], es, s1, A, n, cap, N, by simp [upd, f3], by injection hpc1 with hpc1; exact hpc1.symm, h1.drew.drew⟩
    · rw [if_neg (by rw [hm]; simp)] at hpc1
      refine Sm.out ?_
      repeat (first | refine qS ?_ | refine qB ?_ | refine qT rfl ?_ | refine qF rfl ?_ | ((first | refine qR rfl ?_ | refine qK ?_ | refine qE ?_ | refine qW ?_ | refine qM ?_); try simp -dsimp (maxSteps := 2000000) (disch := first | omega | (simp only [qZ] <;> omega) | fail) only [push_cast, ↓qP, ↓reduceIte, Nat.reduceEqDiff, Nat.reduceAdd, Nat.reduceMul, Nat.reduceSub, Nat.reduceLeDiff, Int.reduceToNat, reduceCtorEq, f0, hm]) | (refine qA ?_ ?_; (first | omega | (simp only [qL]; omega) | (simp only [qD] at *; omega))))
      exact Mid.mk ⟨by simp [upd, f2], es, s1, A, n, cap, N, by simp [upd, f3], by injection hpc1 with hpc1; exact hpc1.symm, h1.drew⟩
  clear h hs hR hL
  intro F w1 hM
  obtain ⟨f2, es, s1, A, n, cap, N, f3, rfl, h1⟩ := hM.out
  clear hM
  obtain ⟨xs, hown, hel⟩ := h1.own
  have hn := h1.n
  have hltr := h1.r.lt
  have hrr := h1.r.rdc
  have hrz := h1.r.fz
  have hN1 := h1.N1
  have hN2 := h1.N2
  by_cases hone : n = 1
  · obtain ⟨e, rfl⟩ : ∃ e, es = [e] := by
      match es, hn with
      | [e], _ => exact ⟨e, rfl⟩
      | [], hn => simp at hn; omega
      | _ :: _ :: _, hn => simp at hn; omega
    obtain ⟨cs, ys, rfl, hre, hys⟩ := hel
    simp only [IsEl] at hys
    subst hys
    obtain ⟨o, se, A1, c1, c2, lo1, hi1', rfl⟩ := hre.form
    obtain ⟨g, rfl, hg, _⟩ := hown.some (by omega)
    have hrd : ∀ j, j < 5 → rdc w1 g j = [.string (B o), .string (B se), .slice A1 c1 c2, .int .i64 lo1, .int .i64 hi1'][j]? := fun j hj => by
      rw [hown.rdc j (by omega), List.append_nil]
    have c1' : ((n : Int) == 1) = true := by simp; omega
    clear hown hn
    repeat (first | refine qS ?_ | refine qB ?_ | refine qT rfl ?_ | refine qF rfl ?_ | ((first | refine qR rfl ?_ | refine qK ?_ | refine qE ?_ | refine qW ?_ | refine qM ?_); try simp -dsimp (maxSteps := 2000000) (disch := first | omega | (simp only [qZ] <;> omega) | fail) only [push_cast, ↓qP, ↓reduceIte, Nat.reduceEqDiff, Nat.reduceAdd, Nat.reduceMul, Nat.reduceSub, Nat.reduceLeDiff, Int.reduceToNat, reduceCtorEq, f2, f3, c1', hrd, hrr, hrz]) | (refine qA ?_ ?_; (first | omega | (simp only [qL]; omega) | (simp only [qD] at *; omega))))
    exact post_out (w1 := w1) (cs := [.string (B o), .string (B se), .slice A1 c1 c2, .int .i64 lo1, .int .i64 hi1']) h1.at_ h1.r h1.kp h1.lt rfl (by simp [upd, f2]) hre (fun b hb => ⟨hb.1, by have := hb.2.1; omega⟩)
  · have c1' : ((n : Int) == 1) = false := by simp; omega
    have hm : (match some (es, s1) with
        | none => none
        | some ([e], s1) => some (e, s1)
        | some (es, s1) => some (Re.node opAlt [] es 0 0, s1) : Option (Re × S3)) = some (Re.node opAlt [] es 0 0, s1) := by
      match es, hn with
      | [e], hn => simp at hn; omega
      | [], _ => rfl
      | _ :: _ :: _, _ => rfl
    repeat (first | refine qS ?_ | refine qB ?_ | refine qT rfl ?_ | refine qF rfl ?_ | ((first | refine qR rfl ?_ | refine qK ?_ | refine qE ?_ | refine qW ?_ | refine qM ?_); try simp -dsimp (maxSteps := 2000000) (disch := first | omega | (simp only [qZ] <;> omega) | fail) only [push_cast, ↓qP, ↓reduceIte, Nat.reduceEqDiff, Nat.reduceAdd, Nat.reduceMul, Nat.reduceSub, Nat.reduceLeDiff, Int.reduceToNat, reduceCtorEq, f2, f3, c1', hrr, hrz]) | (refine qA ?_ ?_; (first | omega | (simp only [qL]; omega) | (simp only [qD] at *; omega))))
    exact post_out (w1 := w1) (cs := [.string (B opAlt), .string (B []), .slice A n cap, .int .i64 0, .int .i64 0]) h1.at_ h1.r h1.kp h1.lt hm (by simp [upd, f2]) (own_kids hown hel (D' := fun b => w.heap.size < b ∧ b < w1.heap.size) (fun b hb => ⟨hb.1, by have := hb.2.1; omega⟩) (fun b hb => ⟨(h1.fresh b hb).1, hown.lt hb⟩) _ _ _ _) (fun b hb => hb)
end
end Go.Proofs.Ytddichibegppjaa

/- The program's reader: branches, group, atom. -/
namespace Go.Proofs.Ytddichibegppjaa
open Go Go.VC Go.RowKit

theorem branch_off {l : List UInt8} {k : Nat} {es : List Re} {s : S3} {R : List Re × S3} (h : s.f ≠ 0) (hR : branch3 l k es s = some R) : R = (es, s) := by
  cases k with
  | zero => simp [branch3] at hR
  | succ k => simp only [branch3, more_off h] at hR; simpa using hR.symm
theorem branches_join {l : List UInt8} {k : Nat} {s : S3} {e0 : Re} {s0 : S3} {es : List Re} {s1 : S3} (hp : pieces3 l k s = some (e0, s0)) (hR : branch3 l k [e0] s0 = some (es, s1)) : branches3 l (k + 1) s = some (joinT opAlt es, s1) := by
  simp only [branches3, hp, hR]
  match es with
  | [] => rfl
  | [e] => rfl
  | _ :: _ :: _ => rfl
theorem piece_end {l : List UInt8} : ∀ {k : Nat} {es : List Re} {s : S3} {r : Option (List Re)} {s' : S3}, piece3 l k es s = some (r, s') → s'.f = 0 → s'.i < l.length → byteAt l s'.i = 124 ∨ byteAt l s'.i = 41
  | 0, es, s, r, s', h, _, _ => by simp [piece3] at h
  | k + 1, es, s, r, s', h, hf, hi => by
    simp only [piece3] at h
    split at h
    · generalize (if (repeat3 l s).1.2.2 = true then (repeat3 l s).2.fail 3 else (repeat3 l s).2) = s1 at h
      by_cases h2 : s1.f ≠ 0
      · rw [if_pos h2] at h
        injection h with h; injection h with h3 h4; rw [← h4] at hf; exact absurd hf h2
      · rw [if_neg h2] at h
        cases ha : atom3 l k s1 with
        | none => rw [ha] at h; cases h
        | some p =>
          obtain ⟨e, s2⟩ := p
          rw [ha] at h
          simp only at h
          cases hr : reps3 l (l.length + 2) e s2 with
          | none => rw [hr] at h; cases h
          | some p =>
            obtain ⟨e', s3⟩ := p
            rw [hr] at h
            exact piece_end h hf hi
    · rename_i h2
      injection h with h; injection h with h3 h4
      subst h4
      rw [more_eq hf, decide_eq_true hi] at h2
      simp at h2
      by_cases e : byteAt l s.i = 124
      · exact .inl e
      · exact .inr (h2 e)
theorem pieces_end {l : List UInt8} {k : Nat} {s : S3} {t : Re} {s' : S3} (h : pieces3 l k s = some (t, s')) (hf : s'.f = 0) (hi : s'.i < l.length) : byteAt l s'.i = 124 ∨ byteAt l s'.i = 41 := by
  cases k with
  | zero => simp [pieces3] at h
  | succ k =>
    simp only [pieces3] at h
    cases hp : piece3 l k [] s with
    | none => rw [hp] at h; cases h
    | some R =>
      obtain ⟨r, s1⟩ := R
      obtain ⟨t2, ht2⟩ := pieces_of hp
      simp only [pieces3] at ht2
      rw [h] at ht2
      injection ht2 with ht2; injection ht2 with _ ht2
      subst ht2
      exact piece_end hp hf hi
theorem branch_end {l : List UInt8} : ∀ {k : Nat} {es : List Re} {s : S3} {es' : List Re} {s' : S3}, branch3 l k es s = some (es', s') → (s.f = 0 → s.i < l.length → byteAt l s.i = 124 ∨ byteAt l s.i = 41) → s'.f = 0 → s'.i < l.length → byteAt l s'.i = 41
  | 0, es, s, es', s', h, _, _, _ => by simp [branch3] at h
  | k + 1, es, s, es', s', h, h0, hf, hi => by
    simp only [branch3] at h
    split at h
    · split at h
      · cases h
      · rename_i e s1 hp
        exact branch_end h (fun hf hi => pieces_end hp hf hi) hf hi
    · rename_i h2
      injection h with h; injection h with h3 h4
      subst h4
      rw [more_eq hf, decide_eq_true hi] at h2
      exact (h0 hf hi).resolve_left (by simpa using h2)
theorem branches_end {l : List UInt8} {k : Nat} {s : S3} {t : Re} {s' : S3} (h : branches3 l k s = some (t, s')) (hf : s'.f = 0) (hi : s'.i < l.length) : byteAt l s'.i = 41 := by
  cases k with
  | zero => simp [branches3] at h
  | succ k =>
    have h' := h
    simp only [branches3] at h'
    cases hp : pieces3 l k s with
    | none => rw [hp] at h'; cases h'
    | some R =>
      obtain ⟨e0, s0⟩ := R
      rw [hp] at h'
      simp only at h'
      cases hb : branch3 l k [e0] s0 with
      | none => rw [hb] at h'; cases h'
      | some R2 =>
        obtain ⟨es, s2⟩ := R2
        rw [branches_join hp hb] at h
        injection h with h; injection h with _ h
        subst h
        exact branch_end hb (fun hf hi => pieces_end hp hf hi) hf hi

section
variable {a : Nat} {l : List UInt8} {s s' : S3} {w w1 w2 : World}
theorem Lq.first {rs : List Value} {e : Re} {cs : List Value} {m : Nat} (h2 : Blk w1 a 133 rs) (hr : Blk w1 w.heap.size 33 zRe) (hk : Kp (· = a) w w1) (hlt : a < w.heap.size) (hre : IsRe w1 (fun b => w.heap.size < b ∧ b < w1.heap.size) e cs) (hm : m = w1.heap.size) :
    Lq w a rs [e] (some ⟨m, 0, none⟩) 1 1 (m + 1) (w1.alloc (.cells cs.toArray 33)) := by
  have hl := hr.lt
  have hk2 : Kp (fun _ => False) w1 (w1.alloc (.cells cs.toArray 33)) := (Kp.refl _ w1).alloc _
  subst hm
  have hle := hre.len
  exact ⟨h2.alloc _, hr.alloc _, ⟨cs, Own.mk' (cur := cs.toArray) (Blk.new w1 33 cs) (Nat.le_refl _) (by decide) (by simp [hle]) (List.take_of_length_le (Nat.le_of_eq hle)), cs, [], by simp, hre.Kp hk2 (fun _ _ => id) (fun b hb => ⟨hb.1, by have := hb.2; omega, by simp [bk]; have := hb.2; omega⟩), rfl⟩, rfl,
    by intro g hg; simp only [bk, Option.map_some] at hg; injection hg with hg; subst hg; exact ⟨hl, Nat.lt_succ_self _⟩, hk.alloc _, hlt, by omega, by simp⟩

theorem branches_any (k : Nat) (hl : l.length ≤ 1000000) (ha : a ≠ 1) (ih : ∀ j, j < k → EP l a j) : EB l a k := by
  intro s w h hs hsf hM hex
  obtain ⟨k, rfl⟩ : ∃ k', k = k' + 1 := by
    cases k with
    | zero => obtain ⟨r, hr⟩ := hex; simp [branches3] at hr
    | succ k => exact ⟨k, rfl⟩
  obtain ⟨⟨e0, s0⟩, hp0⟩ : ∃ R, pieces3 l k s = some R := by
    cases hp : pieces3 l k s with
    | none => obtain ⟨r, hr⟩ := hex; simp [branches3, hp] at hr
    | some R => exact ⟨R, rfl⟩
  obtain ⟨R, hR⟩ : ∃ R, branch3 l k [e0] s0 = some R := by
    cases hp : branch3 l k [e0] s0 with
    | none => obtain ⟨r, hr⟩ := hex; simp [branches3, hp0, hp] at hr
    | some R => exact ⟨R, rfl⟩
  clear hex
  have hgood : ∀ es s1, R = (es, s1) → branches3 l (k + 1) s = some (joinT opAlt es, s1) := fun es s1 e => branches_join hp0 (by rw [hR, e])
  generalize branches3 l (k + 1) s = T at *
  have hlt := h.lt
  obtain ⟨m0, _⟩ := (reads_ok l k).2.2.2.1 _ _ _ hs hp0
  have hs0 := m0.st hs
  refine enter (n := 16) (args := [.pointer (some ⟨a, 0, none⟩)]) Try.func81 rfl rfl rfl (by simp) ?_
  repeat (first | refine qS ?_ | refine qB ?_ | refine qT rfl ?_ | refine qF rfl ?_ | ((first | refine qR rfl ?_ | refine qK ?_ | refine qE ?_ | refine qW ?_ | refine qM ?_); try simp -dsimp (maxSteps := 2000000) (disch := first | omega | (simp only [qZ] <;> omega) | fail) only [push_cast, ↓qP, ↓reduceIte, Nat.reduceEqDiff, Nat.reduceAdd, Nat.reduceMul, Nat.reduceSub, Nat.reduceLeDiff, Int.reduceToNat, reduceCtorEq]) | (refine qA ?_ ?_; (first | omega | (simp only [qL]; omega) | (simp only [qD] at *; omega))))
  refine CallV.of isCall_88 (ih k (by omega) s (w.alloc (.cells zRe.toArray 33)) (h.alloc _) hs hsf (hM.kp ((Kp.refl (fun _ => False) _).alloc _) id) ⟨_, hp0⟩) ?_
  have hk0 : Kp (· = a) w (w.alloc (.cells zRe.toArray 33)) := (Kp.refl (· = a) w).alloc (.cells zRe.toArray 33)
  rintro e w1 (⟨t', s1', cs, he, hf0, rfl, hre, h1, hk1⟩ | ⟨t', s1', he, hf0, x, rfl, x1, x2, hk1⟩)
  case inr =>
    rw [hp0] at he
    injection he with he
    injection he with he1 he2
    subst he1; subst he2
    refine Sm.out ?_
    repeat (first | refine qS ?_ | refine qB ?_ | refine qT rfl ?_ | refine qF rfl ?_ | ((first | refine qR rfl ?_ | refine qK ?_ | refine qE ?_ | refine qW ?_ | refine qM ?_); try simp -dsimp (maxSteps := 2000000) (disch := first | omega | (simp only [qZ] <;> omega) | fail) only [push_cast, ↓qP, ↓reduceIte, Nat.reduceEqDiff, Nat.reduceAdd, Nat.reduceMul, Nat.reduceSub, Nat.reduceLeDiff, Int.reduceToNat, reduceCtorEq]) | (refine qA ?_ ?_; (first | omega | (simp only [qL]; omega) | (simp only [qD] at *; omega))))
    exact Pan.mk (.inr ⟨_, _, hgood _ _ (branch_off hf0 hR), hf0, x, rfl, x1, x2, hk0.trans hk1⟩)
  rw [hp0] at he
  injection he with he
  injection he with he1 he2
  subst he1; subst he2
  have hsz : (w.alloc (.cells zRe.toArray 33)).heap.size = w.heap.size + 1 := by simp
  have hk2 : Kp (· = a) w w1 := hk0.trans hk1
  have hL := Lq.first (w := w) (rs := rsO l s0) h1 (hk1.Blk (Blk.new w 33 zRe) (Nat.ne_of_gt hlt)) hk2 hlt (IsRe.keep (fun b hb => ⟨by have := hb.1; omega, hb.2⟩) (fun b _ i n vs hr => hr) _ _ hre) rfl
  obtain ⟨o, se, A1, c1, c2, lo1, hi1', rfl⟩ := hre.form
  clear h1 hk1 hk2 hre hsz hk0
  refine Sm.out ?_
  repeat (first | ((fail_if_success (first | refine qX (n := 0) ?_)); refine qS ?_) | refine qB ?_ | refine qT rfl ?_ | refine qF rfl ?_ | ((first | refine qR rfl ?_ | refine qK ?_ | refine qE ?_ | refine qW ?_ | refine qM ?_); try simp -dsimp (maxSteps := 2000000) (disch := first | omega | (simp only [qZ] <;> omega) | fail) only [push_cast, ↓qP, ↓reduceIte, Nat.reduceEqDiff, Nat.reduceAdd, Nat.reduceMul, Nat.reduceSub, Nat.reduceLeDiff, Int.reduceToNat, reduceCtorEq]) | (refine qA ?_ ?_; (first | omega | (simp only [qL]; omega) | (simp only [qD] at *; omega))))
  refine Wp.cutQ (fun F' w' => F' 2 = .pointer (some ⟨w.heap.size, 0, none⟩) ∧ ∃ es s1 A n cap N, F' 3 = .slice A n cap ∧ R = (es, s1) ∧ s1.f = 0 ∧ Lq w a (rsO l s1) es A n cap N w') ?_ ?_
  · repeat (first | refine qS ?_ | refine qB ?_ | refine qT rfl ?_ | refine qF rfl ?_ | ((first | refine qR rfl ?_ | refine qK ?_ | refine qE ?_ | refine qW ?_ | refine qM ?_); try simp -dsimp (maxSteps := 2000000) (disch := first | omega | (simp only [qZ] <;> omega) | fail) only [push_cast, ↓qP, ↓reduceIte, Nat.reduceEqDiff, Nat.reduceAdd, Nat.reduceMul, Nat.reduceSub, Nat.reduceLeDiff, Int.reduceToNat, reduceCtorEq]) | (refine qA ?_ ?_; (first | omega | (simp only [qL]; omega) | (simp only [qD] at *; omega))))
    refine Wp.loop (α := Nat) (fun j F w2 => j ≤ k ∧ F 0 = .pointer (some ⟨a, 0, none⟩) ∧ F 2 = .pointer (some ⟨w.heap.size, 0, none⟩) ∧ ∃ es s1 A n cap N, F 3 = .slice A n cap ∧ Lq w a (rsO l s1) es A n cap N w2 ∧ St3 l s1 ∧ s1.f = 0 ∧ es.length ≤ s1.i + 1 ∧ Hide (branch3 l j es s1 = some R)) (fun j => j) k
      ⟨Nat.le_refl _, by simp [upd, arg], by simp [upd], [e0], s0, _, _, _, _, by simp [upd], hL, hs0, hf0, by simp, ⟨hR⟩⟩ ?_
    clear h hs hR hL hs0 m0 hsf hf0
    rintro j F w2 ⟨hjk, f0, f2, es, s1, A, n, cap, N, f3, h1, hs, hf0, hei, hpc⟩
    obtain ⟨j, rfl⟩ : ∃ j', j = j' + 1 := by
      cases j with
      | zero => have := hpc.out; simp [branch3] at this
      | succ j => exact ⟨j, rfl⟩
    have hpc1 := hpc.out
    simp only [branch3, more_eq hf0] at hpc1
    clear hpc
    have hsi := hs.2.2.2 hf0
    have hcond : (decide (s1.i < l.length) && byteAt l s1.i == 124) = hasAt l s1.i 124 := rfl
    rw [hcond] at hpc1
    repeat (first | refine qS ?_ | refine qB ?_ | refine qT rfl ?_ | refine qF rfl ?_ | ((first | refine qR rfl ?_ | refine qK ?_ | refine qE ?_ | refine qW ?_ | refine qM ?_); try simp -dsimp (maxSteps := 2000000) (disch := first | omega | (simp only [qZ] <;> omega) | fail) only [push_cast, ↓qP, ↓reduceIte, Nat.reduceEqDiff, Nat.reduceAdd, Nat.reduceMul, Nat.reduceSub, Nat.reduceLeDiff, Int.reduceToNat, reduceCtorEq, f0]) | (refine qA ?_ ?_; (first | omega | (simp only [qL]; omega) | (simp only [qD] at *; omega))))
    refine CallV.of isCall_89 (take_one (d := s1.d) h1.at_ 124) ?_
    rintro _ w3 ⟨rfl, h2, k2⟩
    cases hc : hasAt l s1.i 124 with
    | false =>
      rw [hc] at h2 hpc1
      rw [if_neg (by simp)] at hpc1
      injection hpc1 with hpc1
      refine Sm.out ?_
      repeat (first | refine qS ?_ | refine qB ?_ | refine qT rfl ?_ | refine qF rfl ?_ | ((first | refine qR rfl ?_ | refine qK ?_ | refine qE ?_ | refine qW ?_ | refine qM ?_); try simp -dsimp (maxSteps := 2000000) (disch := first | omega | (simp only [qZ] <;> omega) | fail) only [push_cast, ↓qP, ↓reduceIte, Nat.reduceEqDiff, Nat.reduceAdd, Nat.reduceMul, Nat.reduceSub, Nat.reduceLeDiff, Int.reduceToNat, reduceCtorEq, f0]) | (refine qA ?_ ?_; (first | omega | (simp only [qL]; omega) | (simp only [qD] at *; omega))))
      exact Mid.mk ⟨by simp [upd, f2], es, s1, A, n, cap, N, by simp [upd, f3], hpc1.symm, hf0, h1.keep (rs' := rsO l s1) h2 k2⟩
    | true =>
    rw [hc] at h2 hpc1
    rw [if_pos rfl] at hpc1
    have hi1 := hasAt_lt hc
    have h3 := h1.keep (rs' := rsO l s1.on) h2 k2
    obtain ⟨⟨e, s2⟩, hp⟩ : ∃ p, pieces3 l j s1.on = some p := by
      cases hp : pieces3 l j s1.on with
      | none => rw [hp] at hpc1; cases hpc1
      | some p => exact ⟨p, rfl⟩
    rw [hp] at hpc1
    simp only [] at hpc1
    have hs2 := hs.2.1
    have on1 : Mv l s1 s1.on := ⟨rfl, by show ((s1.i + 1 : Nat) : Int) + _ ≤ _; omega, fun h => ⟨h, by show s1.i ≤ s1.i + 1; omega, by show s1.i + 1 ≤ _; omega⟩⟩
    have hs4 := on1.st hs
    obtain ⟨m1, _⟩ := (reads_ok l j).2.2.2.1 _ _ _ hs4 hp
    clear h1 h2 k2
    refine Sm.out ?_
    repeat (first | refine qS ?_ | refine qB ?_ | refine qT rfl ?_ | refine qF rfl ?_ | ((first | refine qR rfl ?_ | refine qK ?_ | refine qE ?_ | refine qW ?_ | refine qM ?_); try simp -dsimp (maxSteps := 2000000) (disch := first | omega | (simp only [qZ] <;> omega) | fail) only [push_cast, ↓qP, ↓reduceIte, Nat.reduceEqDiff, Nat.reduceAdd, Nat.reduceMul, Nat.reduceSub, Nat.reduceLeDiff, Int.reduceToNat, reduceCtorEq, f0, f3]) | (refine qA ?_ ?_; (first | omega | (simp only [qL]; omega) | (simp only [qD] at *; omega))))
    refine CallV.of isCall_88 (ih j (by omega) s1.on w3 h3.at_ hs4 hf0 (hM.kp h3.kp (fun e => ha e.symm)) ⟨_, hp⟩) ?_
    rintro e w4 (⟨t', s1', cs, he, hf1, rfl, hre, h4, k4⟩ | ⟨t', s1', he, hf1, x, rfl, x1, x2, k4⟩)
    case inr =>
      rw [hp] at he
      injection he with he
      injection he with he1 he2
      subst he1; subst he2
      refine Sm.out ?_
      repeat (first | refine qS ?_ | refine qB ?_ | refine qT rfl ?_ | refine qF rfl ?_ | ((first | refine qR rfl ?_ | refine qK ?_ | refine qE ?_ | refine qW ?_ | refine qM ?_); try simp -dsimp (maxSteps := 2000000) (disch := first | omega | (simp only [qZ] <;> omega) | fail) only [push_cast, ↓qP, ↓reduceIte, Nat.reduceEqDiff, Nat.reduceAdd, Nat.reduceMul, Nat.reduceSub, Nat.reduceLeDiff, Int.reduceToNat, reduceCtorEq]) | (refine qA ?_ ?_; (first | omega | (simp only [qL]; omega) | (simp only [qD] at *; omega))))
      exact Pan.mk (.inr ⟨_, _, hgood _ _ (branch_off hf1 hpc1), hf1, x, rfl, x1, x2, h3.kp.trans k4⟩)
    rw [hp] at he
    injection he with he
    injection he with he1 he2
    subst he1; subst he2
    have h5 := h3.keep (rs' := rsO l s2) h4 k4
    have hN2 := h3.N2
    obtain ⟨xs, hown, hel⟩ := h5.own
    obtain ⟨o, se, A1, c1, c2, lo1, hi1', rfl⟩ := hre.form
    have hlta := h5.at_.lt
    have hn := h5.n
    have hmi := (m1.2.2 hf1).2.1
    change s1.i + 1 ≤ _ at hmi
    clear h3 h4 k4 hp
    refine Sm.out ?_
    repeat (first | refine qS ?_ | refine qB ?_ | refine qT rfl ?_ | refine qF rfl ?_ | ((first | refine qR rfl ?_ | refine qK ?_ | refine qE ?_ | refine qW ?_ | refine qM ?_); try simp -dsimp (maxSteps := 2000000) (disch := first | omega | (simp only [qZ] <;> omega) | fail) only [push_cast, ↓qP, ↓reduceIte, Nat.reduceEqDiff, Nat.reduceAdd, Nat.reduceMul, Nat.reduceSub, Nat.reduceLeDiff, Int.reduceToNat, reduceCtorEq, f0, f2, f3]) | (refine qA ?_ ?_; (first | omega | (simp only [qL]; omega) | (simp only [qD] at *; omega))))
    refine V_append (m := 1) _ _ _ rfl mk_31 rfl (hown.alloc _) rfl [.string (B o), .string (B se), .slice A1 c1 c2, .int .i64 lo1, .int .i64 hi1'] ?r rfl (by omega) (by omega) ?kk
    case r => simp -dsimp (maxSteps := 2000000) (disch := first | omega | (simp only [qZ] <;> omega) | fail) only [push_cast, ↓qP, ↓reduceIte, Nat.reduceEqDiff, Nat.reduceAdd, Nat.reduceMul, Nat.reduceSub, Nat.reduceLeDiff, Int.reduceToNat, reduceCtorEq]
    case kk =>
      intro A' cap' w8 hown' hgrow hat
      have h9 := h5.append hown hel (IsRe.keep (fun b hb => ⟨by have := hb.1; omega, hb.2⟩) (fun b _ i n vs hr => hr) _ _ hre) hown' hgrow hat
      refine Sm.out ?_
      repeat (first | refine qS ?_ | refine qB ?_ | refine qT rfl ?_ | refine qF rfl ?_ | ((first | refine qR rfl ?_ | refine qK ?_ | refine qE ?_ | refine qW ?_ | refine qM ?_); try simp -dsimp (maxSteps := 2000000) (disch := first | omega | (simp only [qZ] <;> omega) | fail) only [push_cast, ↓qP, ↓reduceIte, Nat.reduceEqDiff, Nat.reduceAdd, Nat.reduceMul, Nat.reduceSub, Nat.reduceLeDiff, Int.reduceToNat, reduceCtorEq, f0, f2, f3]) | (refine qA ?_ ?_; (first | omega | (simp only [qL]; omega) | (simp only [qD] at *; omega))))
      exact Again.mk j ⟨by omega, by simp [upd, f0], by simp [upd, f2], es ++ [e], s2, A', n + 1, cap', _, by simp [upd], h9, m1.st hs4, hf1, by simp; omega, ⟨hpc1⟩⟩ (by omega)
  clear h hs hR hL
  intro F w1 hMd
  obtain ⟨f2, es, s1, A, n, cap, N, f3, hRe, hf1, h1⟩ := hMd.out
  clear hMd
  obtain ⟨xs, hown, hel⟩ := h1.own
  repeat (first | refine qS ?_ | refine qB ?_ | refine qT rfl ?_ | refine qF rfl ?_ | ((first | refine qR rfl ?_ | refine qK ?_ | refine qE ?_ | refine qW ?_ | refine qM ?_); try simp -dsimp (maxSteps := 2000000) (disch := first | omega | (simp only [qZ] <;> omega) | fail) only [push_cast, ↓qP, ↓reduceIte, Nat.reduceEqDiff, Nat.reduceAdd, Nat.reduceMul, Nat.reduceSub, Nat.reduceLeDiff, Int.reduceToNat, reduceCtorEq, f2, f3]) | (refine qA ?_ ?_; (first | omega | (simp only [qL]; omega) | (simp only [qD] at *; omega))))
  refine CallV.of isCall_90 (joined_any opAlt hown hel h1.n (fun b hb => by have := hb.2.1; have := h1.N2; omega) (fun b hb => hown.lt hb)) ?_
  rintro _ w2 ⟨cs, rfl, hre, k2⟩
  have h2 := h1.keep (rs' := rsO l s1) (k2.Blk h1.at_ id) (k2.mono fun _ _ h => h.elim)
  have hltr := h2.r.lt
  have hrr := h2.r.rdc
  have hrz := h2.r.fz
  have hN := h2.N1
  obtain ⟨o, se, A1, c1, c2, lo1, hi1', rfl⟩ := hre.form
  refine Sm.out ?_
  repeat (first | refine qS ?_ | refine qB ?_ | refine qT rfl ?_ | refine qF rfl ?_ | ((first | refine qR rfl ?_ | refine qK ?_ | refine qE ?_ | refine qW ?_ | refine qM ?_); try simp -dsimp (maxSteps := 2000000) (disch := first | omega | (simp only [qZ] <;> omega) | fail) only [push_cast, ↓qP, ↓reduceIte, Nat.reduceEqDiff, Nat.reduceAdd, Nat.reduceMul, Nat.reduceSub, Nat.reduceLeDiff, Int.reduceToNat, reduceCtorEq, f2, hrr, hrz]) | (refine qA ?_ ?_; (first | omega | (simp only [qL]; omega) | (simp only [qD] at *; omega))))
  exact post_oe (w1 := w2) (cs := [.string (B o), .string (B se), .slice A1 c1 c2, .int .i64 lo1, .int .i64 hi1']) h2.at_ h2.r h2.kp h2.lt (hgood _ _ hRe) hf1 (by simp [upd, f2]) hre (fun b hb => by
    have := h2.N2
    rcases hb with hb | hb
    · exact ⟨hb.1, by have := hb.2.1; omega⟩
    · have := h1.fresh b hb; exact ⟨this.1, by omega⟩)
end
end Go.Proofs.Ytddichibegppjaa

/- The program's reader: group, atom; all of them. -/
namespace Go.Proofs.Ytddichibegppjaa
open Go Go.VC Go.RowKit

theorem bytesOf_all : bytesOf noSet true = allBytes := by decide +kernel
section
variable {a : Nat} {l : List UInt8} {s s' : S3} {w w1 w2 : World}

theorem group_any (k : Nat) (hl : l.length ≤ 1000000) (ha : a ≠ 1) (ih : EB l a k) (h : Rd w a l (s.i + 1) s.d) (hs : St3 l s) (hsf : s.f = 0) (hi : s.i < l.length) (hM : MaxL w) (hc : byteAt l s.i = 40) (hex : ∃ r, atom3 l (k + 1) s = some r) :
    Calls Try.prog 103 #[.pointer (some ⟨a, 0, none⟩)] w (OutG w a l (atom3 l (k + 1) s)) := by
  have hlt := h.lt
  have hd := hs.1
  have hd2 := hs.2.1
  have hat : atom3 l (k + 1) s = if s.d ≥ 100 then some (Re.zero, s.fail 1) else match branches3 l k { s with i := s.i + 1, d := s.d + 1 } with
        | none => none
        | some (e, s1) => some (e, (if s1.f == 0 && decide ((s1.i : Int) ≥ (l.length : Int)) then ({ s1 with d := s1.d - 1 } : S3).fail 1 else ({ s1 with d := s1.d - 1 } : S3)).on) := by
    simp only [atom3, hc]; rfl
  rw [hat] at hex ⊢
  clear hat
  have hb := h.blk.rdc
  have hz := h.blk.fz
  refine enter (n := 31) (args := [.pointer (some ⟨a, 0, none⟩)]) Try.func103 rfl rfl rfl (by simp) ?_
  by_cases h100 : s.d ≥ 100
  · rw [if_pos h100]
    have c1 : decide (s.d + 1 > 100) = true := decide_eq_true (by omega)
    repeat (first | refine qS ?_ | refine qB ?_ | refine qT rfl ?_ | refine qF rfl ?_ | ((first | refine qR rfl ?_ | refine qK ?_ | refine qE ?_ | refine qW ?_ | refine qM ?_); try simp -dsimp (maxSteps := 2000000) (disch := first | omega | (simp only [qZ] <;> omega) | fail) only [push_cast, ↓qP, ↓reduceIte, Nat.reduceEqDiff, Nat.reduceAdd, Nat.reduceMul, Nat.reduceSub, Nat.reduceLeDiff, Int.reduceToNat, reduceCtorEq, hb, hz, c1]) | (refine qA ?_ ?_; (first | omega | (simp only [qL]; omega) | (simp only [qD] at *; omega))))
    exact Pan.mk (.inr ⟨Re.zero, _, rfl, fail_f _ (by decide), 1, rfl, by decide, by decide, ((Kp.refl (· = a) w).alloc _).setCell (fun _ => rfl) _⟩)
  rw [if_neg h100] at hex ⊢
  have c1 : decide (s.d + 1 > 100) = false := decide_eq_false (by omega)
  obtain ⟨⟨t, s1⟩, hp⟩ : ∃ p, branches3 l k { s with i := s.i + 1, d := s.d + 1 } = some p := by
    cases hp : branches3 l k { s with i := s.i + 1, d := s.d + 1 } with
    | none => rw [hp] at hex; obtain ⟨r, hr⟩ := hex; cases hr
    | some p => exact ⟨p, rfl⟩
  rw [hp]
  simp only []
  clear hex
  have hs3 := hs.2.2.1
  have hst : St3 l { s with i := s.i + 1, d := s.d + 1 } := ⟨by show 0 ≤ s.d + 1; omega, by show s.d + 1 ≤ 100; omega, by show ((s.i + 1 : Nat) : Int) + (s.d + 1) ≤ _; omega, fun _ => by show s.i + 1 ≤ _; omega⟩
  obtain ⟨m1, _⟩ := (reads_ok l k).2.2.2.2 _ _ _ hst hp
  have hd1 : s1.d = s.d + 1 := m1.1
  obtain ⟨r, hr⟩ : ∃ r, r = w.heap.size := ⟨_, rfl⟩
  refine Sm.out ?_
  repeat (first | ((fail_if_success (first | refine qY (n := 4) ?_ | refine qV (n := 4) ?_)); refine qS ?_) | refine qB ?_ | refine qT rfl ?_ | refine qF rfl ?_ | ((first | refine qR rfl ?_ | refine qK ?_ | refine qE ?_ | refine qW ?_ | refine qM ?_); try simp -dsimp (maxSteps := 2000000) (disch := first | omega | (simp only [qZ] <;> omega) | fail) only [push_cast, ↓qP, ↓reduceIte, Nat.reduceEqDiff, Nat.reduceAdd, Nat.reduceMul, Nat.reduceSub, Nat.reduceLeDiff, Int.reduceToNat, reduceCtorEq, hb, hz, c1]) | (refine qA ?_ ?_; (first | omega | (simp only [qL]; omega) | (simp only [qD] at *; omega))))
  have hrd : Rd ((w.alloc (.cells zRe.toArray 33)).setCell ⟨a, 1, none⟩ (.int .i64 (s.d + 1))) a l (s.i + 1) (s.d + 1) := (h.blk.alloc _).set 1 _
  have hk : Kp (· = a) w ((w.alloc (.cells zRe.toArray 33)).setCell ⟨a, 1, none⟩ (.int .i64 (s.d + 1))) := ((Kp.refl (· = a) w).alloc _).setCell (fun _ => rfl) _
  have hbr : Blk ((w.alloc (.cells zRe.toArray 33)).setCell ⟨a, 1, none⟩ (.int .i64 (s.d + 1))) r 33 zRe := by rw [hr]; exact (Blk.new w 33 zRe).far (p := ⟨a, 1, none⟩) (Nat.ne_of_gt hlt) _
  rw [← hr]
  refine Wp.gen (A := fun W => Rd W a l (s.i + 1) (s.d + 1) ∧ Kp (· = a) w W ∧ Blk W r 33 zRe) ⟨hrd, hk, hbr⟩ ?_
  clear hrd hk hbr hb hz h
  rintro W ⟨h, k0, hbr⟩
  repeat (first | refine qS ?_ | refine qB ?_ | refine qT rfl ?_ | refine qF rfl ?_ | ((first | refine qR rfl ?_ | refine qK ?_ | refine qE ?_ | refine qW ?_ | refine qM ?_); try simp -dsimp (maxSteps := 2000000) (disch := first | omega | (simp only [qZ] <;> omega) | fail) only [push_cast, ↓qP, ↓reduceIte, Nat.reduceEqDiff, Nat.reduceAdd, Nat.reduceMul, Nat.reduceSub, Nat.reduceLeDiff, Int.reduceToNat, reduceCtorEq]) | (refine qA ?_ ?_; (first | omega | (simp only [qL]; omega) | (simp only [qD] at *; omega))))
  refine CallV.of isCall_81 (ih { s with i := s.i + 1, d := s.d + 1 } W h hst hsf (hM.kp k0 (fun e => ha e.symm)) ⟨_, hp⟩) ?_
  rintro e w1 (⟨t', s1', cs, he, hf1, rfl, hre, h1, hk1⟩ | ⟨t', s1', he, hf1, x, rfl, x1, x2, hk1⟩)
  case inr =>
    rw [hp] at he
    injection he with he
    injection he with he1 he2
    subst he1; subst he2
    refine Sm.out ?_
    repeat (first | refine qS ?_ | refine qB ?_ | refine qT rfl ?_ | refine qF rfl ?_ | ((first | refine qR rfl ?_ | refine qK ?_ | refine qE ?_ | refine qW ?_ | refine qM ?_); try simp -dsimp (maxSteps := 2000000) (disch := first | omega | (simp only [qZ] <;> omega) | fail) only [push_cast, ↓qP, ↓reduceIte, Nat.reduceEqDiff, Nat.reduceAdd, Nat.reduceMul, Nat.reduceSub, Nat.reduceLeDiff, Int.reduceToNat, reduceCtorEq]) | (refine qA ?_ ?_; (first | omega | (simp only [qL]; omega) | (simp only [qD] at *; omega))))
    refine Pan.mk (.inr ⟨_, _, rfl, ?_, x, rfl, x1, x2, k0.trans hk1⟩)
    have : (s1.f == 0) = false := by simpa using hf1
    rw [this]; exact hf1
  rw [hp] at he
  injection he with he
  injection he with he1 he2
  subst he1; subst he2
  have hend := branches_end hp hf1
  have hi1 := (m1.2.2 hf1).2.2
  have k1 := k0.trans hk1
  have hbr1 := hk1.Blk hbr (by omega)
  obtain ⟨o, se, A1, c1', c2, lo1, hi1', rfl⟩ := hre.form
  obtain ⟨q, hq⟩ : ∃ q, q = w1.heap.size := ⟨_, rfl⟩
  have hrW : r < W.heap.size := hbr.lt
  have hWq : W.heap.size ≤ q := by have := hk1.size; omega
  have haW := h.lt
  refine Sm.out ?_
  repeat (first | ((fail_if_success (first | refine qY (n := 5) ?_ | refine qV (n := 5) ?_)); refine qS ?_) | refine qB ?_ | refine qT rfl ?_ | refine qF rfl ?_ | ((first | refine qR rfl ?_ | refine qK ?_ | refine qE ?_ | refine qW ?_ | refine qM ?_); try simp -dsimp (maxSteps := 2000000) (disch := first | omega | (simp only [qZ] <;> omega) | fail) only [push_cast, ↓qP, ↓reduceIte, Nat.reduceEqDiff, Nat.reduceAdd, Nat.reduceMul, Nat.reduceSub, Nat.reduceLeDiff, Int.reduceToNat, reduceCtorEq]) | (refine qA ?_ ?_; (first | omega | (simp only [qL]; omega) | (simp only [qD] at *; omega))))
  rw [← hq]
  refine Wp.gen (w := (w1.alloc (.cells zRe.toArray 33)).setCells q 0 [.string (B o), .string (B se), .slice A1 c1' c2, .int .i64 lo1, .int .i64 hi1']) (A := fun W3 => Rd W3 a l s1.i s1.d ∧ Kp (· = a) w W3 ∧ Blk W3 r 33 zRe ∧ Blk W3 q 33 [.string (B o), .string (B se), .slice A1 c1' c2, .int .i64 lo1, .int .i64 hi1'] ∧ IsRe W3 (fun b => r < b ∧ b < W3.heap.size) t [.string (B o), .string (B se), .slice A1 c1' c2, .int .i64 lo1, .int .i64 hi1']) ?_ ?_
  · have hkq : Kp (· = q) w1 ((w1.alloc (.cells zRe.toArray 33)).setCells q 0 [.string (B o), .string (B se), .slice A1 c1' c2, .int .i64 lo1, .int .i64 hi1']) := ((Kp.refl (· = q) w1).alloc _).setCells (fun _ => rfl) [.string (B o), .string (B se), .slice A1 c1' c2, .int .i64 lo1, .int .i64 hi1'] 0
    exact ⟨hkq.Blk h1.blk (by omega), k1.trans' hkq (fun i hi e => by omega), hkq.Blk hbr1 (by omega), Blk.setAll (cs := zRe) (vs := [.string (B o), .string (B se), .slice A1 c1' c2, .int .i64 lo1, .int .i64 hi1']) (by rw [hq]; exact Blk.new w1 33 zRe) rfl,
      hre.Kp hkq (fun b hb e => by have := hb.2; omega) (fun b hb => ⟨by have := hb.1; omega, Nat.lt_of_lt_of_le hb.2 hkq.size⟩)⟩
  clear h h1 k0 hk1 hbr hbr1 hre k1
  rintro W3 ⟨h1, k1, hbr1, hbq, hre⟩
  repeat (first | refine qS ?_ | refine qB ?_ | refine qT rfl ?_ | refine qF rfl ?_ | ((first | refine qR rfl ?_ | refine qK ?_ | refine qE ?_ | refine qW ?_ | refine qM ?_); try simp -dsimp (maxSteps := 2000000) (disch := first | omega | (simp only [qZ] <;> omega) | fail) only [push_cast, ↓qP, ↓reduceIte, Nat.reduceEqDiff, Nat.reduceAdd, Nat.reduceMul, Nat.reduceSub, Nat.reduceLeDiff, Int.reduceToNat, reduceCtorEq]) | (refine qA ?_ ?_; (first | omega | (simp only [qL]; omega) | (simp only [qD] at *; omega))))
  refine CallV.of isCall_89 (take_one h1 41) ?_
  rintro _ w4 ⟨rfl, h4, k4⟩
  have k5 := k1.trans k4
  have hbr4 := k4.Blk hbr1 (by omega)
  have hbq4 := k4.Blk hbq (by omega)
  have hre4 := hre.Kp (D' := fun b => r < b ∧ b < w4.heap.size) k4 (fun b hb e => by have := hb.1; omega) (fun b hb => ⟨hb.1, Nat.lt_of_lt_of_le hb.2 k4.size⟩)
  clear h1 k1 k4 hbr1 hbq hre
  have z1 : (s1.f == 0) = true := by rw [hf1]; rfl
  rcases Nat.lt_or_ge s1.i l.length with hi2 | hi2
  case inr =>
    have hh : hasAt l s1.i 41 = false := by unfold hasAt; rw [decide_eq_false (by omega)]; rfl
    rw [hh] at h4 ⊢
    rw [z1, decide_eq_true (by omega : (s1.i : Int) ≥ (l.length : Int))]
    refine Sm.out ?_
    repeat (first | refine qS ?_ | refine qB ?_ | refine qT rfl ?_ | refine qF rfl ?_ | ((first | refine qR rfl ?_ | refine qK ?_ | refine qE ?_ | refine qW ?_ | refine qM ?_); try simp -dsimp (maxSteps := 2000000) (disch := first | omega | (simp only [qZ] <;> omega) | fail) only [push_cast, ↓qP, ↓reduceIte, Nat.reduceEqDiff, Nat.reduceAdd, Nat.reduceMul, Nat.reduceSub, Nat.reduceLeDiff, Int.reduceToNat, reduceCtorEq]) | (refine qA ?_ ?_; (first | omega | (simp only [qL]; omega) | (simp only [qD] at *; omega))))
    exact Pan.mk (.inr ⟨_, _, rfl, fail_f ({ s1 with d := s1.d - 1 } : S3) (k := 1) (by decide), 1, rfl, by decide, by decide, k5⟩)
  have hh : hasAt l s1.i 41 = true := by rw [hasAt_eq _ hi2, hend hi2]; rfl
  rw [hh] at h4 ⊢
  have h4 : Rd w4 a l (s1.i + 1) s1.d := h4
  rw [z1, decide_eq_false (by omega : ¬ (s1.i : Int) ≥ (l.length : Int))]
  have hb := h4.blk.rdc
  have hz := h4.blk.fz
  have hlt4 := h4.lt
  have hltr := hbr4.lt
  have hrne : r ≠ a := by omega
  have hqne : q ≠ a := by omega
  have h5 : Rd (w4.setCell ⟨a, 1, none⟩ (.int .i64 (s1.d - 1))) a l (s1.i + 1) (s1.d - 1) := h4.blk.set 1 _
  have hbr5 : Blk (w4.setCell ⟨a, 1, none⟩ (.int .i64 (s1.d - 1))) r 33 zRe := hbr4.far (p := ⟨a, 1, none⟩) hrne _
  have hbq5 : Blk (w4.setCell ⟨a, 1, none⟩ (.int .i64 (s1.d - 1))) q 33 [.string (B o), .string (B se), .slice A1 c1' c2, .int .i64 lo1, .int .i64 hi1'] := hbq4.far (p := ⟨a, 1, none⟩) hqne _
  have k6 : Kp (· = a) w (w4.setCell ⟨a, 1, none⟩ (.int .i64 (s1.d - 1))) := k5.setCell (fun _ => rfl) _
  have k7 : Kp (· = a) w4 (w4.setCell ⟨a, 1, none⟩ (.int .i64 (s1.d - 1))) := (Kp.refl (· = a) w4).setCell (fun _ => rfl) _
  have hre5 := hre4.Kp (D' := fun b => r < b ∧ b < (w4.setCell ⟨a, 1, none⟩ (.int .i64 (s1.d - 1))).heap.size) k7 (fun b hb e => by have := hb.1; omega) (fun b hb => ⟨hb.1, Nat.lt_of_lt_of_le hb.2 k7.size⟩)
  refine Sm.out ?_
  repeat (first | ((fail_if_success (first | refine qY (n := 8) ?_ | refine qV (n := 8) ?_)); refine qS ?_) | refine qB ?_ | refine qT rfl ?_ | refine qF rfl ?_ | ((first | refine qR rfl ?_ | refine qK ?_ | refine qE ?_ | refine qW ?_ | refine qM ?_); try simp -dsimp (maxSteps := 2000000) (disch := first | omega | (simp only [qZ] <;> omega) | fail) only [push_cast, ↓qP, ↓reduceIte, Nat.reduceEqDiff, Nat.reduceAdd, Nat.reduceMul, Nat.reduceSub, Nat.reduceLeDiff, Int.reduceToNat, reduceCtorEq, hb, hz]) | (refine qA ?_ ?_; (first | omega | (simp only [qL]; omega) | (simp only [qD] at *; omega))))
  refine Wp.gen (A := fun W5 => Rd W5 a l (s1.i + 1) (s1.d - 1) ∧ Kp (· = a) w W5 ∧ Blk W5 r 33 zRe ∧ Blk W5 q 33 [.string (B o), .string (B se), .slice A1 c1' c2, .int .i64 lo1, .int .i64 hi1'] ∧ IsRe W5 (fun b => r < b ∧ b < W5.heap.size) t [.string (B o), .string (B se), .slice A1 c1' c2, .int .i64 lo1, .int .i64 hi1']) ⟨h5, k6, hbr5, hbq5, hre5⟩ ?_
  clear h4 h5 hbr5 hbr4 hbq4 hbq5 k5 k6 k7 hre4 hre5 hb hz hlt4 hltr
  rintro W5 ⟨h5, k5, hbr5, hbq5, hre5⟩
  have hrr := hbr5.rdc
  have hrz := hbr5.fz
  have hltr := hbr5.lt
  have hltq := hbq5.lt
  have hqq := hbq5.rdc
  subst hr
  repeat (first | refine qS ?_ | refine qB ?_ | refine qT rfl ?_ | refine qF rfl ?_ | ((first | refine qR rfl ?_ | refine qK ?_ | refine qE ?_ | refine qW ?_ | refine qM ?_); try simp -dsimp (maxSteps := 2000000) (disch := first | omega | (simp only [qZ] <;> omega) | fail) only [push_cast, ↓qP, ↓reduceIte, Nat.reduceEqDiff, Nat.reduceAdd, Nat.reduceMul, Nat.reduceSub, Nat.reduceLeDiff, Int.reduceToNat, reduceCtorEq, hrr, hrz, hqq]) | (refine qA ?_ ?_; (first | omega | (simp only [qL]; omega) | (simp only [qD] at *; omega))))
  exact post_oe (w1 := W5) (s' := { s1 with i := s1.i + 1, d := s1.d - 1 }) (cs := [.string (B o), .string (B se), .slice A1 c1' c2, .int .i64 lo1, .int .i64 hi1']) h5 hbr5 k5 hlt rfl hf1 (by simp [upd, arg]) hre5 (fun b hb => hb)

theorem atom_any (k : Nat) (hl : l.length ≤ 1000000) (ha : a ≠ 1) (ih : EB l a k) : EA l a (k + 1) := by
  intro s w h hs hsf hi hM hex
  have hat : atom3 l (k + 1) s = if byteAt l s.i == 40 then atom3 l (k + 1) s else if byteAt l s.i == 46 then some (.node opSet allBytes [] 0 0, s.on) else if byteAt l s.i == 94 then some (.node opBol [] [] 0 0, s.on)
      else if byteAt l s.i == 36 then some (.node opEol [] [] 0 0, s.on) else if byteAt l s.i == 91 then bracket3 l s else if byteAt l s.i == 92 then some (.node opSet [(escape3 l s).1] [] 0 0, (escape3 l s).2) else some (.node opSet [byteAt l s.i] [] 0 0, s.on) := by
    by_cases c : byteAt l s.i == 40
    · rw [if_pos c]
    · rw [if_neg c]; simp only [atom3]; rw [if_neg c]
  have hlt := h.lt
  obtain ⟨r, hr⟩ : ∃ r, r = w.heap.size := ⟨_, rfl⟩
  have hb := (h.alloc (.cells zRe.toArray 33)).blk.rdc
  have hz := (h.alloc (.cells zRe.toArray 33)).blk.fz
  have hgg := getD_drop l s.i 0
  have hll : (l.drop s.i).length = l.length - s.i := by simp
  have hl0 : 0 < (l.drop s.i).length := by omega
  have hli : ((l.length : Int) - (s.i : Int)).toNat = l.length - s.i := by omega
  have hdd : (l.drop s.i).drop 1 = l.drop (s.i + 1) := by rw [List.drop_drop]
  have htt : ((l.drop (s.i + 1)).take (l.length - s.i - 1)) = l.drop (s.i + 1) := List.take_of_length_le (by simp; omega)
  refine enter (n := 45) (args := [.pointer (some ⟨a, 0, none⟩)]) Try.func98 rfl rfl rfl (by simp) ?_
  have hlta : a < (w.alloc (.cells zRe.toArray 33)).heap.size := (h.alloc _).lt
  refine Sm.out ?_
  repeat (first | ((fail_if_success (first | refine qY (n := 3) ?_ | refine qV (n := 3) ?_)); refine qS ?_) | refine qB ?_ | refine qT rfl ?_ | refine qF rfl ?_ | ((first | refine qR rfl ?_ | refine qK ?_ | refine qE ?_ | refine qW ?_ | refine qM ?_); try simp -dsimp (maxSteps := 2000000) (disch := first | omega | (simp only [qZ] <;> omega) | fail) only [push_cast, ↓qP, ↓reduceIte, Nat.reduceEqDiff, Nat.reduceAdd, Nat.reduceMul, Nat.reduceSub, Nat.reduceLeDiff, Int.reduceToNat, reduceCtorEq, hb, hz, hgg, hll, hli, hdd, htt]) | (refine qA ?_ ?_; (first | omega | (simp only [qL]; omega) | (simp only [qD] at *; omega))))
  have hrd : Rd ((w.alloc (.cells zRe.toArray 33)).setCell ⟨a, 0, none⟩ (.string (B (l.drop (s.i + 1))))) a l (s.i + 1) s.d := (h.blk.alloc _).set 0 _
  have hk : Kp (· = a) w ((w.alloc (.cells zRe.toArray 33)).setCell ⟨a, 0, none⟩ (.string (B (l.drop (s.i + 1))))) := ((Kp.refl (· = a) w).alloc _).setCell (fun _ => rfl) _
  have hbr : Blk ((w.alloc (.cells zRe.toArray 33)).setCell ⟨a, 0, none⟩ (.string (B (l.drop (s.i + 1))))) r 33 zRe := by rw [hr]; exact (Blk.new w 33 zRe).far (p := ⟨a, 0, none⟩) (Nat.ne_of_gt hlt) _
  rw [← hr]
  refine Wp.gen (A := fun W => Rd W a l (s.i + 1) s.d ∧ Kp (· = a) w W ∧ Blk W r 33 zRe) ⟨hrd, hk, hbr⟩ ?_
  clear hrd hk hbr hb hz h hgg hll hl0 hli hdd htt hlta
  rintro W ⟨h, k0, hbr⟩
  have hMW := hM.kp k0 (fun e => ha e.symm)
  have hne : a ≠ r := by omega
  have e40 : (((byteAt l s.i).toNat : Int) == 40) = (byteAt l s.i == 40) := u8e _ 40
  have e91 : (((byteAt l s.i).toNat : Int) == 91) = (byteAt l s.i == 91) := u8e _ 91
  have e94 : (((byteAt l s.i).toNat : Int) == 94) = (byteAt l s.i == 94) := u8e _ 94
  have e36 : (((byteAt l s.i).toNat : Int) == 36) = (byteAt l s.i == 36) := u8e _ 36
  have e46 : (((byteAt l s.i).toNat : Int) == 46) = (byteAt l s.i == 46) := u8e _ 46
  have e92 : (((byteAt l s.i).toNat : Int) == 92) = (byteAt l s.i == 92) := u8e _ 92
  have hrr := hbr.rdc
  have hrz := hbr.fz
  have hltr := hbr.lt
  cases c40 : byteAt l s.i == 40 with
  | true =>
    rw [c40] at e40
    repeat (first | refine qS ?_ | refine qB ?_ | refine qT rfl ?_ | refine qF rfl ?_ | ((first | refine qR rfl ?_ | refine qK ?_ | refine qE ?_ | refine qW ?_ | refine qM ?_); try simp -dsimp (maxSteps := 2000000) (disch := first | omega | (simp only [qZ] <;> omega) | fail) only [push_cast, ↓qP, ↓reduceIte, Nat.reduceEqDiff, Nat.reduceAdd, Nat.reduceMul, Nat.reduceSub, Nat.reduceLeDiff, Int.reduceToNat, reduceCtorEq, e40]) | (refine qA ?_ ?_; (first | omega | (simp only [qL]; omega) | (simp only [qD] at *; omega))))
    refine CallV.of isCall_103 (group_any k hl ha ih h hs hsf hi hMW (by simpa using c40) hex) ?_
    rintro e w3 (⟨t', s1', cs, he, hf1, rfl, hre, h3, k3⟩ | ⟨t', s1', he, hf1, x, rfl, x1, x2, k3⟩)
    case inr =>
      refine Sm.out ?_
      repeat (first | refine qS ?_ | refine qB ?_ | refine qT rfl ?_ | refine qF rfl ?_ | ((first | refine qR rfl ?_ | refine qK ?_ | refine qE ?_ | refine qW ?_ | refine qM ?_); try simp -dsimp (maxSteps := 2000000) (disch := first | omega | (simp only [qZ] <;> omega) | fail) only [push_cast, ↓qP, ↓reduceIte, Nat.reduceEqDiff, Nat.reduceAdd, Nat.reduceMul, Nat.reduceSub, Nat.reduceLeDiff, Int.reduceToNat, reduceCtorEq]) | (refine qA ?_ ?_; (first | omega | (simp only [qL]; omega) | (simp only [qD] at *; omega))))
      exact Pan.mk (.inr ⟨t', s1', he, hf1, x, rfl, x1, x2, k0.trans k3⟩)
    obtain ⟨o, se, A1, c1, c2, lo1, hi1', rfl⟩ := hre.form
    have hb3 := k3.Blk hbr hne.symm
    clear hrr hrz
    have hltr := hb3.lt
    have hrr := hb3.rdc
    have hrz := hb3.fz
    have hN := hbr.lt
    subst hr
    refine Sm.out ?_
    repeat (first | refine qS ?_ | refine qB ?_ | refine qT rfl ?_ | refine qF rfl ?_ | ((first | refine qR rfl ?_ | refine qK ?_ | refine qE ?_ | refine qW ?_ | refine qM ?_); try simp -dsimp (maxSteps := 2000000) (disch := first | omega | (simp only [qZ] <;> omega) | fail) only [push_cast, ↓qP, ↓reduceIte, Nat.reduceEqDiff, Nat.reduceAdd, Nat.reduceMul, Nat.reduceSub, Nat.reduceLeDiff, Int.reduceToNat, reduceCtorEq, hrr, hrz]) | (refine qA ?_ ?_; (first | omega | (simp only [qL]; omega) | (simp only [qD] at *; omega))))
    exact post_oe (w1 := w3) (cs := [.string (B o), .string (B se), .slice A1 c1 c2, .int .i64 lo1, .int .i64 hi1']) h3 hb3 (k0.trans k3) hlt he hf1 (by simp [upd, arg]) hre (fun b hb => ⟨by have := hb.1; omega, hb.2⟩)
  | false =>
  rw [c40] at e40 hat
  cases c91 : byteAt l s.i == 91 with
  | true =>
    have h91 : byteAt l s.i = 91 := by simpa using c91
    rw [if_neg (by simp), h91] at hat
    rw [c91] at e91
    have hat : atom3 l (k + 1) s = bracket3 l s := hat
    rw [hat]
    repeat (first | refine qS ?_ | refine qB ?_ | refine qT rfl ?_ | refine qF rfl ?_ | ((first | refine qR rfl ?_ | refine qK ?_ | refine qE ?_ | refine qW ?_ | refine qM ?_); try simp -dsimp (maxSteps := 2000000) (disch := first | omega | (simp only [qZ] <;> omega) | fail) only [push_cast, ↓qP, ↓reduceIte, Nat.reduceEqDiff, Nat.reduceAdd, Nat.reduceMul, Nat.reduceSub, Nat.reduceLeDiff, Int.reduceToNat, reduceCtorEq, e40, e91]) | (refine qA ?_ ?_; (first | omega | (simp only [qL]; omega) | (simp only [qD] at *; omega))))
    refine CallV.of isCall_104 (brk_any h ha hMW hsf (by omega) hl) ?_
    rintro e w3 (⟨t', s1', cs, he, hf1, rfl, hre, h3, k3⟩ | ⟨t', s1', he, hf1, x, rfl, x1, x2, k3⟩)
    case inr =>
      refine Sm.out ?_
      repeat (first | refine qS ?_ | refine qB ?_ | refine qT rfl ?_ | refine qF rfl ?_ | ((first | refine qR rfl ?_ | refine qK ?_ | refine qE ?_ | refine qW ?_ | refine qM ?_); try simp -dsimp (maxSteps := 2000000) (disch := first | omega | (simp only [qZ] <;> omega) | fail) only [push_cast, ↓qP, ↓reduceIte, Nat.reduceEqDiff, Nat.reduceAdd, Nat.reduceMul, Nat.reduceSub, Nat.reduceLeDiff, Int.reduceToNat, reduceCtorEq]) | (refine qA ?_ ?_; (first | omega | (simp only [qL]; omega) | (simp only [qD] at *; omega))))
      exact Pan.mk (.inr ⟨t', s1', he, hf1, x, rfl, x1, x2, k0.trans k3⟩)
    obtain ⟨o, se, A1, c1, c2, lo1, hi1', rfl⟩ := hre.form
    have hb3 := k3.Blk hbr hne.symm
    clear hrr hrz
    have hltr := hb3.lt
    have hrr := hb3.rdc
    have hrz := hb3.fz
    have hN := hbr.lt
    subst hr
    refine Sm.out ?_
    repeat (first | refine qS ?_ | refine qB ?_ | refine qT rfl ?_ | refine qF rfl ?_ | ((first | refine qR rfl ?_ | refine qK ?_ | refine qE ?_ | refine qW ?_ | refine qM ?_); try simp -dsimp (maxSteps := 2000000) (disch := first | omega | (simp only [qZ] <;> omega) | fail) only [push_cast, ↓qP, ↓reduceIte, Nat.reduceEqDiff, Nat.reduceAdd, Nat.reduceMul, Nat.reduceSub, Nat.reduceLeDiff, Int.reduceToNat, reduceCtorEq, hrr, hrz]) | (refine qA ?_ ?_; (first | omega | (simp only [qL]; omega) | (simp only [qD] at *; omega))))
    exact post_oe (w1 := w3) (cs := [.string (B o), .string (B se), .slice A1 c1 c2, .int .i64 lo1, .int .i64 hi1']) h3 hb3 (k0.trans k3) hlt he hf1 (by simp [upd, arg]) hre (fun b hb => ⟨by have := hb.1; omega, hb.2⟩)
  | false =>
  rw [c91] at e91 hat
  cases c94 : byteAt l s.i == 94 with
  | true =>
    have h94 : byteAt l s.i = 94 := by simpa using c94
    rw [if_neg (by simp), h94] at hat
    rw [c94] at e94
    have hat : atom3 l (k + 1) s = some (.node opBol [] [] 0 0, s.on) := hat
    rw [hat]
    subst hr
    repeat (first | refine qS ?_ | refine qB ?_ | refine qT rfl ?_ | refine qF rfl ?_ | ((first | refine qR rfl ?_ | refine qK ?_ | refine qE ?_ | refine qW ?_ | refine qM ?_); try simp -dsimp (maxSteps := 2000000) (disch := first | omega | (simp only [qZ] <;> omega) | fail) only [push_cast, ↓qP, ↓reduceIte, Nat.reduceEqDiff, Nat.reduceAdd, Nat.reduceMul, Nat.reduceSub, Nat.reduceLeDiff, Int.reduceToNat, reduceCtorEq, e40, e91, e94, hrr, hrz]) | (refine qA ?_ ?_; (first | omega | (simp only [qL]; omega) | (simp only [qD] at *; omega))))
    exact post_oe (w1 := W) (s' := s.on) (cs := [.string (B opBol), .string (B []), .slice none 0 0, .int .i64 0, .int .i64 0]) h hbr k0 hlt rfl hsf (by simp [upd, arg]) (set_is _ (fun _ => False) _ _) (fun b h => h.elim)
  | false =>
  rw [c94] at e94 hat
  cases c36 : byteAt l s.i == 36 with
  | true =>
    have h36 : byteAt l s.i = 36 := by simpa using c36
    rw [if_neg (by simp), h36] at hat
    rw [c36] at e36
    have hat : atom3 l (k + 1) s = some (.node opEol [] [] 0 0, s.on) := hat
    rw [hat]
    subst hr
    repeat (first | refine qS ?_ | refine qB ?_ | refine qT rfl ?_ | refine qF rfl ?_ | ((first | refine qR rfl ?_ | refine qK ?_ | refine qE ?_ | refine qW ?_ | refine qM ?_); try simp -dsimp (maxSteps := 2000000) (disch := first | omega | (simp only [qZ] <;> omega) | fail) only [push_cast, ↓qP, ↓reduceIte, Nat.reduceEqDiff, Nat.reduceAdd, Nat.reduceMul, Nat.reduceSub, Nat.reduceLeDiff, Int.reduceToNat, reduceCtorEq, e40, e91, e94, e36, hrr, hrz]) | (refine qA ?_ ?_; (first | omega | (simp only [qL]; omega) | (simp only [qD] at *; omega))))
    exact post_oe (w1 := W) (s' := s.on) (cs := [.string (B opEol), .string (B []), .slice none 0 0, .int .i64 0, .int .i64 0]) h hbr k0 hlt rfl hsf (by simp [upd, arg]) (set_is _ (fun _ => False) _ _) (fun b h => h.elim)
  | false =>
  rw [c36] at e36 hat
  cases c46 : byteAt l s.i == 46 with
  | true =>
    have h46 : byteAt l s.i = 46 := by simpa using c46
    rw [if_neg (by simp), h46] at hat
    rw [c46] at e46
    have hat : atom3 l (k + 1) s = some (.node opSet allBytes [] 0 0, s.on) := hat
    rw [hat]
    have hnb : Blk (W.alloc (.cells (List.replicate 256 (Value.bool false)).toArray 149)) W.heap.size 149 (bools noSet) := by
      have := Blk.new W 149 (List.replicate 256 (Value.bool false))
      rw [bools_noSet]
      simpa using this
    repeat (first | refine qS ?_ | refine qB ?_ | refine qT rfl ?_ | refine qF rfl ?_ | ((first | refine qR rfl ?_ | refine qK ?_ | refine qE ?_ | refine qW ?_ | refine qM ?_); try simp -dsimp (maxSteps := 2000000) (disch := first | omega | (simp only [qZ] <;> omega) | fail) only [push_cast, ↓qP, ↓reduceIte, Nat.reduceEqDiff, Nat.reduceAdd, Nat.reduceMul, Nat.reduceSub, Nat.reduceLeDiff, Int.reduceToNat, reduceCtorEq, e40, e91, e94, e36, e46]) | (refine qA ?_ ?_; (first | omega | (simp only [qL]; omega) | (simp only [qD] at *; omega))))
    refine CallV.of isCall_105 (text_any hnb rfl false) ?_
    rintro _ w3 ⟨rfl, k3⟩
    have k4 : Kp (fun _ => False) W w3 := ((Kp.refl _ W).alloc _).trans k3
    rw [show (!false) = true from rfl, bytesOf_all]
    have hb3 := k4.Blk hbr id
    have h3 := h.keep k4 id
    clear hrr hrz
    have hltr := hb3.lt
    have hrr := hb3.rdc
    have hrz := hb3.fz
    subst hr
    refine Sm.out ?_
    repeat (first | refine qS ?_ | refine qB ?_ | refine qT rfl ?_ | refine qF rfl ?_ | ((first | refine qR rfl ?_ | refine qK ?_ | refine qE ?_ | refine qW ?_ | refine qM ?_); try simp -dsimp (maxSteps := 2000000) (disch := first | omega | (simp only [qZ] <;> omega) | fail) only [push_cast, ↓qP, ↓reduceIte, Nat.reduceEqDiff, Nat.reduceAdd, Nat.reduceMul, Nat.reduceSub, Nat.reduceLeDiff, Int.reduceToNat, reduceCtorEq, hrr, hrz]) | (refine qA ?_ ?_; (first | omega | (simp only [qL]; omega) | (simp only [qD] at *; omega))))
    exact post_oe (w1 := w3) (s' := s.on) (cs := [.string (B opSet), .string (B allBytes), .slice none 0 0, .int .i64 0, .int .i64 0]) h3 hb3 (k0.trans (k4.mono fun _ _ h => h.elim)) hlt rfl hsf (by simp [upd, arg]) (set_is _ (fun _ => False) _ _) (fun b h => h.elim)
  | false =>
  rw [c46] at e46 hat
  -- a byte
  cases c92 : byteAt l s.i == 92 with
  | true =>
    rw [c92] at e92 hat
    have hat : atom3 l (k + 1) s = some (.node opSet [(escape3 l s).1] [] 0 0, (escape3 l s).2) := hat
    rw [hat]
    repeat (first | refine qS ?_ | refine qB ?_ | refine qT rfl ?_ | refine qF rfl ?_ | ((first | refine qR rfl ?_ | refine qK ?_ | refine qE ?_ | refine qW ?_ | refine qM ?_); try simp -dsimp (maxSteps := 2000000) (disch := first | omega | (simp only [qZ] <;> omega) | fail) only [push_cast, ↓qP, ↓reduceIte, Nat.reduceEqDiff, Nat.reduceAdd, Nat.reduceMul, Nat.reduceSub, Nat.reduceLeDiff, Int.reduceToNat, reduceCtorEq, e40, e91, e94, e36, e46, e92]) | (refine qA ?_ ?_; (first | omega | (simp only [qL]; omega) | (simp only [qD] at *; omega))))
    refine CallV.of isCall_106 (escaped_any h hsf rfl (by omega) hl) ?_
    have hde : (escape3 l s).2.d = s.d := (escape3_facts l s hi).2.2
    rintro e w3 (⟨q1, rfl, h3, k3⟩ | ⟨q1, x, rfl, x1, x2, k3⟩)
    case inr =>
      refine Sm.out ?_
      repeat (first | refine qS ?_ | refine qB ?_ | refine qT rfl ?_ | refine qF rfl ?_ | ((first | refine qR rfl ?_ | refine qK ?_ | refine qE ?_ | refine qW ?_ | refine qM ?_); try simp -dsimp (maxSteps := 2000000) (disch := first | omega | (simp only [qZ] <;> omega) | fail) only [push_cast, ↓qP, ↓reduceIte, Nat.reduceEqDiff, Nat.reduceAdd, Nat.reduceMul, Nat.reduceSub, Nat.reduceLeDiff, Int.reduceToNat, reduceCtorEq]) | (refine qA ?_ ?_; (first | omega | (simp only [qL]; omega) | (simp only [qD] at *; omega))))
      exact Pan.mk (.inr ⟨_, _, rfl, q1, x, rfl, x1, x2, k0.trans k3⟩)
    rw [← hde] at h3
    have hb3 := k3.Blk hbr hne.symm
    clear hrr hrz
    have hltr := hb3.lt
    have hrr := hb3.rdc
    have hrz := hb3.fz
    subst hr
    refine Sm.out ?_
    repeat (first | refine qS ?_ | refine qB ?_ | refine qT rfl ?_ | refine qF rfl ?_ | ((first | refine qR rfl ?_ | refine qK ?_ | refine qE ?_ | refine qW ?_ | refine qM ?_); try simp -dsimp (maxSteps := 2000000) (disch := first | omega | (simp only [qZ] <;> omega) | fail) only [push_cast, ↓qP, ↓reduceIte, Nat.reduceEqDiff, Nat.reduceAdd, Nat.reduceMul, Nat.reduceSub, Nat.reduceLeDiff, Int.reduceToNat, reduceCtorEq, by8]) | (refine qA ?_ ?_; (first | omega | (simp only [qL]; omega) | (simp only [qD] at *; omega))))
    refine V_str 63 9 _ rfl se_63 ik_5 isStr_9 [(escape3 l s).1] rfl rfl (.inr ⟨w3.heap.size, 0, rfl, fun j hj => ?_⟩) ?_
    · obtain rfl : j = 0 := by simpa using hj
      exact (Blk.new w3 5 [by8 (escape3 l s).1]).rdc 0
    refine Sm.out ?_
    repeat (first | refine qS ?_ | refine qB ?_ | refine qT rfl ?_ | refine qF rfl ?_ | ((first | refine qR rfl ?_ | refine qK ?_ | refine qE ?_ | refine qW ?_ | refine qM ?_); try simp -dsimp (maxSteps := 2000000) (disch := first | omega | (simp only [qZ] <;> omega) | fail) only [push_cast, ↓qP, ↓reduceIte, Nat.reduceEqDiff, Nat.reduceAdd, Nat.reduceMul, Nat.reduceSub, Nat.reduceLeDiff, Int.reduceToNat, reduceCtorEq, hrr, hrz]) | (refine qA ?_ ?_; (first | omega | (simp only [qL]; omega) | (simp only [qD] at *; omega))))
    exact post_oe (w1 := w3.alloc (.cells #[.int .u8 ((escape3 l s).1.toNat : Int)] 5)) (s' := (escape3 l s).2) (cs := [.string (B opSet), .string (B [(escape3 l s).1]), .slice none 0 0, .int .i64 0, .int .i64 0]) (h3.alloc _) (hb3.alloc _) ((k0.trans k3).alloc _) hlt rfl q1 (by simp [upd, arg]) (set_is _ (fun _ => False) _ _) (fun b h => h.elim)
  | false =>
    rw [c92] at e92 hat
    have hat : atom3 l (k + 1) s = some (.node opSet [byteAt l s.i] [] 0 0, s.on) := hat
    rw [hat]
    subst hr
    repeat (first | refine qS ?_ | refine qB ?_ | refine qT rfl ?_ | refine qF rfl ?_ | ((first | refine qR rfl ?_ | refine qK ?_ | refine qE ?_ | refine qW ?_ | refine qM ?_); try simp -dsimp (maxSteps := 2000000) (disch := first | omega | (simp only [qZ] <;> omega) | fail) only [push_cast, ↓qP, ↓reduceIte, Nat.reduceEqDiff, Nat.reduceAdd, Nat.reduceMul, Nat.reduceSub, Nat.reduceLeDiff, Int.reduceToNat, reduceCtorEq, e40, e91, e94, e36, e46, e92]) | (refine qA ?_ ?_; (first | omega | (simp only [qL]; omega) | (simp only [qD] at *; omega))))
    refine V_str 63 9 _ rfl se_63 ik_5 isStr_9 [byteAt l s.i] rfl rfl (.inr ⟨W.heap.size, 0, rfl, fun j hj => ?_⟩) ?_
    · obtain rfl : j = 0 := by simpa using hj
      exact (Blk.new W 5 [by8 (byteAt l s.i)]).rdc 0
    refine Sm.out ?_
    repeat (first | refine qS ?_ | refine qB ?_ | refine qT rfl ?_ | refine qF rfl ?_ | ((first | refine qR rfl ?_ | refine qK ?_ | refine qE ?_ | refine qW ?_ | refine qM ?_); try simp -dsimp (maxSteps := 2000000) (disch := first | omega | (simp only [qZ] <;> omega) | fail) only [push_cast, ↓qP, ↓reduceIte, Nat.reduceEqDiff, Nat.reduceAdd, Nat.reduceMul, Nat.reduceSub, Nat.reduceLeDiff, Int.reduceToNat, reduceCtorEq, hrr, hrz]) | (refine qA ?_ ?_; (first | omega | (simp only [qL]; omega) | (simp only [qD] at *; omega))))
    exact post_oe (w1 := W.alloc (.cells #[.int .u8 ((byteAt l s.i).toNat : Int)] 5)) (s' := s.on) (cs := [.string (B opSet), .string (B [byteAt l s.i]), .slice none 0 0, .int .i64 0, .int .i64 0]) (h.alloc _) (hbr.alloc _) (k0.alloc _) hlt rfl hsf (by simp [upd, arg]) (set_is _ (fun _ => False) _ _) (fun b h => h.elim)

/-- All of them. -/
theorem ere_all (hl : l.length ≤ 1000000) (ha : a ≠ 1) : ∀ k, EA l a k ∧ EP l a k ∧ EB l a k := by
  intro k
  induction k using Nat.strongRecOn with
  | _ k ih =>
    refine ⟨?_, pieces_any k hl ha fun j hj => (ih j hj).1, branches_any k hl ha fun j hj => (ih j hj).2.1⟩
    cases k with
    | zero => intro s w _ _ _ _ _ hex; obtain ⟨r, hr⟩ := hex; simp [atom3] at hr
    | succ k => exact atom_any k hl ha (ih k (by omega)).2.2
end
end Go.Proofs.Ytddichibegppjaa

/- The reference's reader of expressions: atoms; all of it. -/
namespace Go.Proofs.Ytddichibegppjaa
open Go Go.VC

section
variable {a : Nat} {l : List UInt8} {s s' : S3} {w w1 w2 : World}

theorem atom3_any (k : Nat) (hl : l.length ≤ 1000000) (ih : ∀ j, j < k → CB l a j) : CA l a k := by
  intro s w h hs hf0 hi1 hex
  obtain ⟨k, rfl⟩ : ∃ k', k = k' + 1 := by
    cases k with
    | zero => obtain ⟨r, hr⟩ := hex; simp [atom3] at hr
    | succ k => exact ⟨k, rfl⟩
  obtain ⟨R, hR⟩ := hex
  rw [hR]
  have hR1 := hR
  simp only [atom3] at hR1
  have hlt := h.lt
  refine enter (n := 121) (args := [.pointer (some ⟨a, 0, none⟩)]) Try.func85 rfl rfl rfl (by simp) ?_
  repeat (first | refine qS ?_ | refine qB ?_ | refine qT rfl ?_ | refine qF rfl ?_ | ((first | refine qR rfl ?_ | refine qK ?_ | refine qE ?_ | refine qW ?_ | refine qM ?_); try simp -dsimp (maxSteps := 2000000) (disch := first | omega | (simp only [qZ] <;> omega) | fail) only [push_cast, ↓qP, ↓reduceIte, Nat.reduceEqDiff, Nat.reduceAdd, Nat.reduceMul, Nat.reduceSub, Nat.reduceLeDiff, Int.reduceToNat, reduceCtorEq]) | (refine qA ?_ ?_; (first | omega | (simp only [qL]; omega) | (simp only [qD] at *; omega))))
  refine CallV.gen (A := fun W => At3 W a l s ∧ Blk W w.heap.size 33 zRe ∧ Kp (· = a) w W) ⟨h.alloc _, Blk.new w 33 zRe, (Kp.refl _ w).alloc _⟩ ?_
  rintro w1 ⟨h1, hb1, k1⟩
  refine CallV.of isCall_72 (peek3 h1 hi1) ?_
  rintro _ _ ⟨rfl, rfl⟩
  have h2 := h1.drew
  have hb2 := hb1.drew
  have k2 := k1.drew
  clear h1 hb1 k1
  generalize w1.drew = w2 at *
  have hlta := h2.lt
  have hltr := hb2.lt
  have hrr := hb2.rdc
  have hrz := hb2.fz
  have hne : a ≠ w.heap.size := Nat.ne_of_lt hlt
  have e40 : (((byteAt l s.i).toNat : Int) == 40) = (byteAt l s.i == 40) := u8_eq' _ 40
  have e46 : (((byteAt l s.i).toNat : Int) == 46) = (byteAt l s.i == 46) := u8_eq' _ 46
  have e94 : (((byteAt l s.i).toNat : Int) == 94) = (byteAt l s.i == 94) := u8_eq' _ 94
  have e36 : (((byteAt l s.i).toNat : Int) == 36) = (byteAt l s.i == 36) := u8_eq' _ 36
  have e91 : (((byteAt l s.i).toNat : Int) == 91) = (byteAt l s.i == 91) := u8_eq' _ 91
  have e92 : (((byteAt l s.i).toNat : Int) == 92) = (byteAt l s.i == 92) := u8_eq' _ 92
  rcases Bool.eq_false_or_eq_true (byteAt l s.i == 40) with c40 | c40
  · rw [if_pos c40] at hR1
    rcases Bool.eq_false_or_eq_true (decide (s.d ≥ 100)) with hd | hd
    · rw [if_pos (by simpa using hd)] at hR1
      injection hR1 with hR1
      subst hR1
      refine Sm.out ?_
      repeat (first | refine qS ?_ | refine qB ?_ | refine qT rfl ?_ | refine qF rfl ?_ | ((first | refine qR rfl ?_ | refine qK ?_ | refine qE ?_ | refine qW ?_ | refine qM ?_); try simp -dsimp (maxSteps := 2000000) (disch := first | omega | (simp only [qZ] <;> omega) | fail) only [push_cast, ↓qP, ↓reduceIte, Nat.reduceEqDiff, Nat.reduceAdd, Nat.reduceMul, Nat.reduceSub, Nat.reduceLeDiff, Int.reduceToNat, reduceCtorEq, e40, c40, h2.rdc, hd]) | (refine qA ?_ ?_; (first | omega | (simp only [qL]; omega) | (simp only [qD] at *; omega))))
      refine CallV.of isCall_50 (fail3 h2 1) ?_
      rintro _ w3 ⟨rfl, h3, k3⟩
      have hb3 := k3.Blk hb2 hne.symm
      have hltr := hb3.lt
      have hrr := hb3.rdc
      have hrz := hb3.fz
      refine Sm.out ?_
      repeat (first | refine qS ?_ | refine qB ?_ | refine qT rfl ?_ | refine qF rfl ?_ | ((first | refine qR rfl ?_ | refine qK ?_ | refine qE ?_ | refine qW ?_ | refine qM ?_); try simp -dsimp (maxSteps := 2000000) (disch := first | omega | (simp only [qZ] <;> omega) | fail) only [push_cast, ↓qP, ↓reduceIte, Nat.reduceEqDiff, Nat.reduceAdd, Nat.reduceMul, Nat.reduceSub, Nat.reduceLeDiff, Int.reduceToNat, reduceCtorEq, hrr, hrz]) | (refine qA ?_ ?_; (first | omega | (simp only [qL]; omega) | (simp only [qD] at *; omega))))
      exact post_out (w1 := w3) (cs := zRe) h3 hb3 (k2.trans k3) hlt rfl (by simp [upd]) (zRe_is _ (fun _ => False)) (fun b h => h.elim)
    · rw [if_neg (by simpa using hd)] at hR1
      have hd' : s.d < 100 := by simpa using hd
      obtain ⟨d0, d1, d2, d3⟩ := hs
      obtain ⟨⟨e, s1⟩, hb⟩ : ∃ p, branches3 l k { s with i := s.i + 1, d := s.d + 1 } = some p := by
        cases hp : branches3 l k { s with i := s.i + 1, d := s.d + 1 } with
        | none => rw [hp] at hR1; cases hR1
        | some p => exact ⟨p, rfl⟩
      rw [hb] at hR1
      simp only [] at hR1
      have st2 : St3 l { s with i := s.i + 1, d := s.d + 1 } := ⟨by show 0 ≤ s.d + 1; omega, by show s.d + 1 ≤ 100; omega, by show ((s.i + 1 : Nat) : Int) + (s.d + 1) ≤ _; omega, fun _ => by show s.i + 1 ≤ _; omega⟩
      obtain ⟨⟨m1, m2, m3⟩, _⟩ := (reads_ok l k).2.2.2.2 _ _ _ st2 hb
      change s1.d = s.d + 1 at m1
      change (s1.i : Int) + (s.d + 1) ≤ _ at m2
      clear m3
      refine Sm.out ?_
      repeat (first | ((fail_if_success (first | refine qY (n := 9) ?_ | refine qV (n := 9) ?_)); refine qS ?_) | refine qB ?_ | refine qT rfl ?_ | refine qF rfl ?_ | ((first | refine qR rfl ?_ | refine qK ?_ | refine qE ?_ | refine qW ?_ | refine qM ?_); try simp -dsimp (maxSteps := 2000000) (disch := first | omega | (simp only [qZ] <;> omega) | fail) only [push_cast, ↓qP, ↓reduceIte, Nat.reduceEqDiff, Nat.reduceAdd, Nat.reduceMul, Nat.reduceSub, Nat.reduceLeDiff, Int.reduceToNat, reduceCtorEq, e40, c40, h2.rdc, h2.fz, hd]) | (refine qA ?_ ?_; (first | omega | (simp only [qL]; omega) | (simp only [qD] at *; omega))))
      have h3 : At3 ((w2.setCell ⟨a, 1, none⟩ (.int .i64 ((s.i : Int) + 1))).setCell ⟨a, 3, none⟩ (.int .i64 (s.d + 1))) a l { s with i := s.i + 1, d := s.d + 1 } := (h2.set 1 _).set 3 _
      have hb3 := (hb2.far (p := ⟨a, 1, none⟩) hne.symm (.int .i64 ((s.i : Int) + 1))).far (p := ⟨a, 3, none⟩) hne.symm (.int .i64 (s.d + 1))
      have k3 := (k2.setCell (p := ⟨a, 1, none⟩) (fun _ => rfl) (.int .i64 ((s.i : Int) + 1))).setCell (p := ⟨a, 3, none⟩) (fun _ => rfl) (.int .i64 (s.d + 1))
      generalize ((w2.setCell ⟨a, 1, none⟩ (.int .i64 ((s.i : Int) + 1))).setCell ⟨a, 3, none⟩ (.int .i64 (s.d + 1))) = w3 at *
      have hrN := hb3.lt
      repeat (first | refine qS ?_ | refine qB ?_ | refine qT rfl ?_ | refine qF rfl ?_ | ((first | refine qR rfl ?_ | refine qK ?_ | refine qE ?_ | refine qW ?_ | refine qM ?_); try simp -dsimp (maxSteps := 2000000) (disch := first | omega | (simp only [qZ] <;> omega) | fail) only [push_cast, ↓qP, ↓reduceIte, Nat.reduceEqDiff, Nat.reduceAdd, Nat.reduceMul, Nat.reduceSub, Nat.reduceLeDiff, Int.reduceToNat, reduceCtorEq]) | (refine qA ?_ ?_; (first | omega | (simp only [qL]; omega) | (simp only [qD] at *; omega))))
      refine CallV.of isCall_49 (ih k (by omega) _ w3 h3 st2 ⟨_, hb⟩) ?_
      rintro _ w4 ⟨t', s1', cs, he, rfl, hre, h4, k4⟩
      rw [hb] at he
      injection he with he
      injection he with he1 he2
      subst he1; subst he2
      obtain ⟨o, se, A1, c1, c2, lo1, hi1', rfl⟩ := hre.form
      have hb4 := k4.Blk hb3 hne.symm
      have k5 := k3.trans k4
      have hlta := h4.lt
      refine Sm.out ?_
      repeat (first | ((fail_if_success (first | refine qY (n := 10) ?_ | refine qV (n := 10) ?_)); refine qS ?_) | refine qB ?_ | refine qT rfl ?_ | refine qF rfl ?_ | ((first | refine qR rfl ?_ | refine qK ?_ | refine qE ?_ | refine qW ?_ | refine qM ?_); try simp -dsimp (maxSteps := 2000000) (disch := first | omega | (simp only [qZ] <;> omega) | fail) only [push_cast, ↓qP, ↓reduceIte, Nat.reduceEqDiff, Nat.reduceAdd, Nat.reduceMul, Nat.reduceSub, Nat.reduceLeDiff, Int.reduceToNat, reduceCtorEq]) | (refine qA ?_ ?_; (first | omega | (simp only [qL]; omega) | (simp only [qD] at *; omega))))
      obtain ⟨q, hq⟩ : ∃ q, q = w4.heap.size := ⟨_, rfl⟩
      rw [← hq]
      have hltr4 := hb4.lt
      refine Wp.gen (w := (w4.alloc (.cells zRe.toArray 33)).setCells q 0 [.string (B o), .string (B se), .slice A1 c1 c2, .int .i64 lo1, .int .i64 hi1']) (A := fun W => At3 W a l s1 ∧ Blk W w.heap.size 33 zRe ∧ Kp (· = a) w W ∧ Blk W q 33 [.string (B o), .string (B se), .slice A1 c1 c2, .int .i64 lo1, .int .i64 hi1'] ∧ IsRe W (fun b => w.heap.size < b ∧ b < W.heap.size ∧ b ≠ q) e [.string (B o), .string (B se), .slice A1 c1 c2, .int .i64 lo1, .int .i64 hi1']) ?_ ?_
      · have hk : Kp (· = q) w4 ((w4.alloc (.cells zRe.toArray 33)).setCells q 0 [.string (B o), .string (B se), .slice A1 c1 c2, .int .i64 lo1, .int .i64 hi1']) := ((Kp.refl (· = q) w4).alloc _).setCells (fun _ => rfl) [.string (B o), .string (B se), .slice A1 c1 c2, .int .i64 lo1, .int .i64 hi1'] 0
        exact ⟨Blk.farCells (by omega) _ _ _ (h4.alloc _), Blk.farCells (by omega) _ _ _ (hb4.alloc _), k5.trans' hk (fun i hi e => by have := k5.size; omega), Blk.setAll (cs := zRe) (by rw [hq]; exact Blk.new w4 33 zRe) rfl,
          hre.Kp hk (fun b hb e => by have := hb.2; omega) (fun b hb => ⟨by have := hb.1; omega, Nat.lt_of_lt_of_le hb.2 hk.size, by have := hb.2; omega⟩)⟩
      clear h4 hb4 k5 k4 hre hlta hltr hrr hrz h3 hb3 k3 h2 hb2 k2
      rintro w5 ⟨h5, hb5, k5, hq5, hre5⟩
      have hlta := h5.lt
      have hqr : q ≠ w.heap.size := by omega
      have hqa : q ≠ a := by omega
      clear hq
      refine Sm.out ?_
      repeat (first | ((fail_if_success (first | refine qY (n := 11) ?_ | refine qV (n := 11) ?_)); refine qS ?_) | refine qB ?_ | refine qT rfl ?_ | refine qF rfl ?_ | ((first | refine qR rfl ?_ | refine qK ?_ | refine qE ?_ | refine qW ?_ | refine qM ?_); try simp -dsimp (maxSteps := 2000000) (disch := first | omega | (simp only [qZ] <;> omega) | fail) only [push_cast, ↓qP, ↓reduceIte, Nat.reduceEqDiff, Nat.reduceAdd, Nat.reduceMul, Nat.reduceSub, Nat.reduceLeDiff, Int.reduceToNat, reduceCtorEq, h5.rdc, h5.fz]) | (refine qA ?_ ?_; (first | omega | (simp only [qL]; omega) | (simp only [qD] at *; omega))))
      have h6 : At3 (w5.setCell ⟨a, 3, none⟩ (.int .i64 (s1.d - 1))) a l { s1 with d := s1.d - 1 } := h5.set 3 _
      have hb6 := hb5.far (p := ⟨a, 3, none⟩) hne.symm (.int .i64 (s1.d - 1))
      have hq6 := hq5.far (p := ⟨a, 3, none⟩) hqa (.int .i64 (s1.d - 1))
      have k6 := k5.setCell (p := ⟨a, 3, none⟩) (fun _ => rfl) (.int .i64 (s1.d - 1))
      have hre6 := hre5.Kp (D' := fun b => w.heap.size < b ∧ b < (w5.setCell ⟨a, 3, none⟩ (.int .i64 (s1.d - 1))).heap.size) ((Kp.refl (· = a) w5).setCell (p := ⟨a, 3, none⟩) (fun _ => rfl) (.int .i64 (s1.d - 1))) (fun b hb e => by have := hb.1; omega) (fun b hb => ⟨hb.1, by have := hb.2.1; simpa using this⟩)
      clear h5 hb5 k5 hq5 hre5
      generalize (w5.setCell ⟨a, 3, none⟩ (.int .i64 (s1.d - 1))) = w6 at *
      obtain ⟨s2, hs2⟩ : ∃ s2 : S3, s2 = { s1 with d := s1.d - 1 } := ⟨_, rfl⟩
      rw [← hs2] at h6
      have hs2i : s2.i ≤ l.length + 200 := by rw [hs2]; show s1.i ≤ _; omega
      clear m1 m2 d2
      obtain ⟨s3, hs3⟩ : ∃ s3 : S3, s3 = if s2.f == 0 && decide ((s2.i : Int) ≥ (l.length : Int)) then s2.fail 1 else s2 := ⟨_, rfl⟩
      have hR2 : R = (e, s3.on) := by rw [hs3, hs2]; injection hR1 with hR1; exact hR1.symm
      clear hR1 hR hs2
      subst hR2
      refine Wp.cut (fun F W => F 0 = .pointer (some ⟨a, 0, none⟩) ∧ F 2 = .pointer (some ⟨w.heap.size, 0, none⟩) ∧ F 4 = .pointer (some ⟨q, 0, none⟩) ∧ At3 W a l s3 ∧ s3.i ≤ l.length + 200 ∧ Blk W w.heap.size 33 zRe ∧ Kp (· = a) w W ∧ Blk W q 33 [.string (B o), .string (B se), .slice A1 c1 c2, .int .i64 lo1, .int .i64 hi1'] ∧ IsRe W (fun b => w.heap.size < b ∧ b < W.heap.size) e [.string (B o), .string (B se), .slice A1 c1 c2, .int .i64 lo1, .int .i64 hi1']) ?_ ?_
      · rcases Bool.eq_false_or_eq_true (s2.f == 0) with g1 | g1
        · rcases Bool.eq_false_or_eq_true (decide ((s2.i : Int) ≥ (l.length : Int))) with g2 | g2
          · rw [g1, g2] at hs3
            simp only [Bool.and_self, if_true] at hs3
            have hlt6 := h6.lt
            refine Wp.seq (Wp.draw [0, 1, 3, 7, 15, 31, 63, 127, 255, 511, 63, 1087, 3135, 7231, 15423, 32767, 65535] [] (.op 0 false false [] <| .op 1 false false [] <| .op 2 false false [] <| .op 3 false false [] <| .op 4 false false [] <| .op 5 false false [] <| .op 6 false false [] <| .op 7 false false [] <| .op 8 false false [] <| .op 9 false false [] <| .op 10 false false [] <| .op 11 false false [] <| .op 12 false false [] <| .op 13 false false [] <| .op 14 false false [] <| .op 15 false false [] <| .op 16 false false [] <| .nil) mixed (by kernel_rfl) ?_)
            simp -dsimp (maxSteps := 2000000) (disch := first | omega | (simp only [qZ] <;> omega) | fail) only [push_cast, ↓qP, ↓reduceIte, Nat.reduceEqDiff, Nat.reduceAdd, Nat.reduceMul, Nat.reduceSub, Nat.reduceLeDiff, Int.reduceToNat, reduceCtorEq, h6.rdc, g1, g2]
            refine Sm.out ?_
            repeat (first | refine qS ?_ | refine qB ?_ | refine qT rfl ?_ | refine qF rfl ?_ | ((first | refine qR rfl ?_ | refine qK ?_ | refine qE ?_ | refine qW ?_ | refine qM ?_); try simp -dsimp (maxSteps := 2000000) (disch := first | omega | (simp only [qZ] <;> omega) | fail) only [push_cast, ↓qP, ↓reduceIte, Nat.reduceEqDiff, Nat.reduceAdd, Nat.reduceMul, Nat.reduceSub, Nat.reduceLeDiff, Int.reduceToNat, reduceCtorEq, g1, g2]) | (refine qA ?_ ?_; (first | omega | (simp only [qL]; omega) | (simp only [qD] at *; omega))))
            refine CallV.of isCall_50 (fail3 h6.drew 1) ?_
            rintro _ w7 ⟨rfl, h7, k7⟩
            refine Sm.out ?_
            repeat (first | refine qS ?_ | refine qB ?_ | refine qT rfl ?_ | refine qF rfl ?_ | ((first | refine qR rfl ?_ | refine qK ?_ | refine qE ?_ | refine qW ?_ | refine qM ?_); try simp -dsimp (maxSteps := 2000000) (disch := first | omega | (simp only [qZ] <;> omega) | fail) only [push_cast, ↓qP, ↓reduceIte, Nat.reduceEqDiff, Nat.reduceAdd, Nat.reduceMul, Nat.reduceSub, Nat.reduceLeDiff, Int.reduceToNat, reduceCtorEq]) | (refine qA ?_ ?_; (first | omega | (simp only [qL]; omega) | (simp only [qD] at *; omega))))
            have k7' : Kp (· = a) w6 w7 := (Kp.refl (· = a) w6).drew.trans k7
            exact Mid.mk ⟨by simp [upd, arg], by simp [upd], by simp [upd], hs3 ▸ h7, by rw [hs3, fail_ii]; exact hs2i, k7'.Blk hb6 hne.symm, k6.trans k7', k7'.Blk hq6 hqa, hre6.Kp k7' (fun b hb e => by have := hb.1; omega) (fun b hb => ⟨hb.1, Nat.lt_of_lt_of_le hb.2 k7'.size⟩)⟩
          · rw [g1, g2] at hs3
            simp only [Bool.and_false, Bool.false_eq_true, if_false] at hs3
            have hlt6 := h6.lt
            refine Wp.seq (Wp.draw [0, 1, 3, 7, 15, 31, 63, 127, 255, 511, 63, 1087, 3135, 7231, 15423, 32767, 65535] [] (.op 0 false false [] <| .op 1 false false [] <| .op 2 false false [] <| .op 3 false false [] <| .op 4 false false [] <| .op 5 false false [] <| .op 6 false false [] <| .op 7 false false [] <| .op 8 false false [] <| .op 9 false false [] <| .op 10 false false [] <| .op 11 false false [] <| .op 12 false false [] <| .op 13 false false [] <| .op 14 false false [] <| .op 15 false false [] <| .op 16 false false [] <| .nil) mixed (by kernel_rfl) ?_)
            simp -dsimp (maxSteps := 2000000) (disch := first | omega | (simp only [qZ] <;> omega) | fail) only [push_cast, ↓qP, ↓reduceIte, Nat.reduceEqDiff, Nat.reduceAdd, Nat.reduceMul, Nat.reduceSub, Nat.reduceLeDiff, Int.reduceToNat, reduceCtorEq, h6.rdc, g1, g2]
            refine Sm.out ?_
            repeat (first | refine qS ?_ | refine qB ?_ | refine qT rfl ?_ | refine qF rfl ?_ | ((first | refine qR rfl ?_ | refine qK ?_ | refine qE ?_ | refine qW ?_ | refine qM ?_); try simp -dsimp (maxSteps := 2000000) (disch := first | omega | (simp only [qZ] <;> omega) | fail) only [push_cast, ↓qP, ↓reduceIte, Nat.reduceEqDiff, Nat.reduceAdd, Nat.reduceMul, Nat.reduceSub, Nat.reduceLeDiff, Int.reduceToNat, reduceCtorEq, g1, g2]) | (refine qA ?_ ?_; (first | omega | (simp only [qL]; omega) | (simp only [qD] at *; omega))))
            exact Mid.mk ⟨by simp [upd, arg], by simp [upd], by simp [upd], hs3 ▸ h6.drew, by rw [hs3]; exact hs2i, hb6.drew, k6.drew, hq6.drew, hre6.Kp ((Kp.refl (fun _ => False) w6).drew) (fun _ _ => id) (fun b hb => hb)⟩
        · rw [g1] at hs3
          simp only [Bool.false_and, Bool.false_eq_true, if_false] at hs3
          have hlt6 := h6.lt
          refine Wp.seq (Wp.draw [0, 1, 3, 7, 15, 31, 63, 127, 255, 511, 63, 1087, 3135, 7231, 15423, 32767, 65535] [] (.op 0 false false [] <| .op 1 false false [] <| .op 2 false false [] <| .op 3 false false [] <| .op 4 false false [] <| .op 5 false false [] <| .op 6 false false [] <| .op 7 false false [] <| .op 8 false false [] <| .op 9 false false [] <| .op 10 false false [] <| .op 11 false false [] <| .op 12 false false [] <| .op 13 false false [] <| .op 14 false false [] <| .op 15 false false [] <| .op 16 false false [] <| .nil) mixed (by kernel_rfl) ?_)
          simp -dsimp (maxSteps := 2000000) (disch := first | omega | (simp only [qZ] <;> omega) | fail) only [push_cast, ↓qP, ↓reduceIte, Nat.reduceEqDiff, Nat.reduceAdd, Nat.reduceMul, Nat.reduceSub, Nat.reduceLeDiff, Int.reduceToNat, reduceCtorEq, h6.rdc, g1]
          refine Sm.out ?_
          repeat (first | refine qS ?_ | refine qB ?_ | refine qT rfl ?_ | refine qF rfl ?_ | ((first | refine qR rfl ?_ | refine qK ?_ | refine qE ?_ | refine qW ?_ | refine qM ?_); try simp -dsimp (maxSteps := 2000000) (disch := first | omega | (simp only [qZ] <;> omega) | fail) only [push_cast, ↓qP, ↓reduceIte, Nat.reduceEqDiff, Nat.reduceAdd, Nat.reduceMul, Nat.reduceSub, Nat.reduceLeDiff, Int.reduceToNat, reduceCtorEq, g1]) | (refine qA ?_ ?_; (first | omega | (simp only [qL]; omega) | (simp only [qD] at *; omega))))
          exact Mid.mk ⟨by simp [upd, arg], by simp [upd], by simp [upd], hs3 ▸ h6.drew, by rw [hs3]; exact hs2i, hb6.drew, k6.drew, hq6.drew, hre6.Kp ((Kp.refl (fun _ => False) w6).drew) (fun _ _ => id) (fun b hb => hb)⟩
      clear h6 hb6 k6 hq6 hre6 hs3
      rintro F w7 ⟨f0, f2, f4, h7, hi7, hb7, k7, hq7, hre7⟩
      have hlta := h7.lt
      have hltq := hq7.lt
      have hltr := hb7.lt
      have hrr := hb7.rdc
      have hrz := hb7.fz
      have haq : a ≠ q := hqa.symm
      repeat (first | refine qS ?_ | refine qB ?_ | refine qT rfl ?_ | refine qF rfl ?_ | ((first | refine qR rfl ?_ | refine qK ?_ | refine qE ?_ | refine qW ?_ | refine qM ?_); try simp -dsimp (maxSteps := 2000000) (disch := first | omega | (simp only [qZ] <;> omega) | fail) only [push_cast, ↓qP, ↓reduceIte, Nat.reduceEqDiff, Nat.reduceAdd, Nat.reduceMul, Nat.reduceSub, Nat.reduceLeDiff, Int.reduceToNat, reduceCtorEq, f0, f2, f4, h7.rdc, h7.fz, hq7.rdc, hrr, hrz]) | (refine qA ?_ ?_; (first | omega | (simp only [qL]; omega) | (simp only [qD] at *; omega))))
      exact post_out (w1 := w7.setCell ⟨a, 1, none⟩ (.int .i64 ((s3.i : Int) + 1))) (s' := s3.on) (cs := [.string (B o), .string (B se), .slice A1 c1 c2, .int .i64 lo1, .int .i64 hi1']) (h7.set 1 _) (hb7.far (p := ⟨a, 1, none⟩) hne.symm _) (k7.setCell (fun _ => rfl) _) hlt rfl (by simp [upd, f2]) (hre7.Kp (D' := fun b => w.heap.size < b ∧ b < (w7.setCell ⟨a, 1, none⟩ (.int .i64 ((s3.i : Int) + 1))).heap.size) ((Kp.refl (· = a) w7).setCell (p := ⟨a, 1, none⟩) (fun _ => rfl) _) (fun b hb e => by have := hb.1; omega) (fun b hb => ⟨hb.1, by have := hb.2; simpa using this⟩)) (fun b hb => hb)
  rw [if_neg (by rw [c40]; simp)] at hR1
  rcases Bool.eq_false_or_eq_true (byteAt l s.i == 46) with c46 | c46
  · rw [if_pos c46] at hR1
    injection hR1 with hR1
    subst hR1
    refine Sm.out ?_
    repeat (first | refine qS ?_ | refine qB ?_ | refine qT rfl ?_ | refine qF rfl ?_ | ((first | refine qR rfl ?_ | refine qK ?_ | refine qE ?_ | refine qW ?_ | refine qM ?_); try simp -dsimp (maxSteps := 2000000) (disch := first | omega | (simp only [qZ] <;> omega) | fail) only [push_cast, ↓qP, ↓reduceIte, Nat.reduceEqDiff, Nat.reduceAdd, Nat.reduceMul, Nat.reduceSub, Nat.reduceLeDiff, Int.reduceToNat, reduceCtorEq, e40, c40, e46, c46, h2.rdc, h2.fz]) | (refine qA ?_ ?_; (first | omega | (simp only [qL]; omega) | (simp only [qD] at *; omega))))
    have h3 : At3 (w2.setCell ⟨a, 1, none⟩ (.int .i64 ((s.i : Int) + 1))) a l s.on := h2.set 1 _
    have hb3 := hb2.far (p := ⟨a, 1, none⟩) hne.symm (.int .i64 ((s.i : Int) + 1))
    have k3 := k2.setCell (p := ⟨a, 1, none⟩) (fun _ => rfl) (.int .i64 ((s.i : Int) + 1))
    generalize (w2.setCell ⟨a, 1, none⟩ (.int .i64 ((s.i : Int) + 1))) = w3 at *
    refine CallV.of isCall_93 (all3_any w3) ?_
    rintro _ w4 ⟨rfl, k4⟩
    have h4 := k4.Blk h3 id
    have hb4 := k4.Blk hb3 id
    have k5 := k3.trans (k4.mono (fun k _ e => e.elim))
    have hltr := hb4.lt
    have hrr := hb4.rdc
    have hrz := hb4.fz
    refine Sm.out ?_
    repeat (first | refine qS ?_ | refine qB ?_ | refine qT rfl ?_ | refine qF rfl ?_ | ((first | refine qR rfl ?_ | refine qK ?_ | refine qE ?_ | refine qW ?_ | refine qM ?_); try simp -dsimp (maxSteps := 2000000) (disch := first | omega | (simp only [qZ] <;> omega) | fail) only [push_cast, ↓qP, ↓reduceIte, Nat.reduceEqDiff, Nat.reduceAdd, Nat.reduceMul, Nat.reduceSub, Nat.reduceLeDiff, Int.reduceToNat, reduceCtorEq, hrr, hrz]) | (refine qA ?_ ?_; (first | omega | (simp only [qL]; omega) | (simp only [qD] at *; omega))))
    exact post_out (w1 := w4) (cs := [.string (B opSet), .string (B allBytes), .slice none 0 0, .int .i64 0, .int .i64 0]) h4 hb4 k5 hlt rfl (by simp [upd]) (set_is _ (fun _ => False) _ _) (fun b h => h.elim)
  rw [if_neg (by rw [c46]; simp)] at hR1
  rcases Bool.eq_false_or_eq_true (byteAt l s.i == 94) with c94 | c94
  · rw [if_pos c94] at hR1
    injection hR1 with hR1
    subst hR1
    refine Sm.out ?_
    repeat (first | refine qS ?_ | refine qB ?_ | refine qT rfl ?_ | refine qF rfl ?_ | ((first | refine qR rfl ?_ | refine qK ?_ | refine qE ?_ | refine qW ?_ | refine qM ?_); try simp -dsimp (maxSteps := 2000000) (disch := first | omega | (simp only [qZ] <;> omega) | fail) only [push_cast, ↓qP, ↓reduceIte, Nat.reduceEqDiff, Nat.reduceAdd, Nat.reduceMul, Nat.reduceSub, Nat.reduceLeDiff, Int.reduceToNat, reduceCtorEq, e40, c40, e46, c46, e94, c94, h2.rdc, h2.fz, hrr, hrz]) | (refine qA ?_ ?_; (first | omega | (simp only [qL]; omega) | (simp only [qD] at *; omega))))
    exact post_out (w1 := w2.setCell ⟨a, 1, none⟩ (.int .i64 ((s.i : Int) + 1))) (s' := s.on) (cs := [.string (B opBol), .string (B []), .slice none 0 0, .int .i64 0, .int .i64 0]) (h2.set 1 _) (hb2.far (p := ⟨a, 1, none⟩) hne.symm _) (k2.setCell (fun _ => rfl) _) hlt rfl (by simp [upd]) (set_is _ (fun _ => False) _ _) (fun b h => h.elim)
  rw [if_neg (by rw [c94]; simp)] at hR1
  rcases Bool.eq_false_or_eq_true (byteAt l s.i == 36) with c36 | c36
  · rw [if_pos c36] at hR1
    injection hR1 with hR1
    subst hR1
    refine Sm.out ?_
    repeat (first | refine qS ?_ | refine qB ?_ | refine qT rfl ?_ | refine qF rfl ?_ | ((first | refine qR rfl ?_ | refine qK ?_ | refine qE ?_ | refine qW ?_ | refine qM ?_); try simp -dsimp (maxSteps := 2000000) (disch := first | omega | (simp only [qZ] <;> omega) | fail) only [push_cast, ↓qP, ↓reduceIte, Nat.reduceEqDiff, Nat.reduceAdd, Nat.reduceMul, Nat.reduceSub, Nat.reduceLeDiff, Int.reduceToNat, reduceCtorEq, e40, c40, e46, c46, e94, c94, e36, c36, h2.rdc, h2.fz, hrr, hrz]) | (refine qA ?_ ?_; (first | omega | (simp only [qL]; omega) | (simp only [qD] at *; omega))))
    exact post_out (w1 := w2.setCell ⟨a, 1, none⟩ (.int .i64 ((s.i : Int) + 1))) (s' := s.on) (cs := [.string (B opEol), .string (B []), .slice none 0 0, .int .i64 0, .int .i64 0]) (h2.set 1 _) (hb2.far (p := ⟨a, 1, none⟩) hne.symm _) (k2.setCell (fun _ => rfl) _) hlt rfl (by simp [upd]) (set_is _ (fun _ => False) _ _) (fun b h => h.elim)
  rw [if_neg (by rw [c36]; simp)] at hR1
  rcases Bool.eq_false_or_eq_true (byteAt l s.i == 91) with c91 | c91
  · rw [if_pos c91] at hR1
    refine Sm.out ?_
    repeat (first | refine qS ?_ | refine qB ?_ | refine qT rfl ?_ | refine qF rfl ?_ | ((first | refine qR rfl ?_ | refine qK ?_ | refine qE ?_ | refine qW ?_ | refine qM ?_); try simp -dsimp (maxSteps := 2000000) (disch := first | omega | (simp only [qZ] <;> omega) | fail) only [push_cast, ↓qP, ↓reduceIte, Nat.reduceEqDiff, Nat.reduceAdd, Nat.reduceMul, Nat.reduceSub, Nat.reduceLeDiff, Int.reduceToNat, reduceCtorEq, e40, c40, e46, c46, e94, c94, e36, c36, e91, c91]) | (refine qA ?_ ?_; (first | omega | (simp only [qL]; omega) | (simp only [qD] at *; omega))))
    refine CallV.of isCall_94 (bracket3_any h2 hl hi1) ?_
    rintro _ w3 ⟨t', s1', cs, he, rfl, hre, h3, k3⟩
    rw [hR1] at he
    injection he with he
    subst he
    obtain ⟨o, se, A1, c1, c2, lo1, hi1', rfl⟩ := hre.form
    have hb3 := k3.Blk hb2 hne.symm
    have hltr := hb3.lt
    have hrr := hb3.rdc
    have hrz := hb3.fz
    have hN := hb2.lt
    refine Sm.out ?_
    repeat (first | refine qS ?_ | refine qB ?_ | refine qT rfl ?_ | refine qF rfl ?_ | ((first | refine qR rfl ?_ | refine qK ?_ | refine qE ?_ | refine qW ?_ | refine qM ?_); try simp -dsimp (maxSteps := 2000000) (disch := first | omega | (simp only [qZ] <;> omega) | fail) only [push_cast, ↓qP, ↓reduceIte, Nat.reduceEqDiff, Nat.reduceAdd, Nat.reduceMul, Nat.reduceSub, Nat.reduceLeDiff, Int.reduceToNat, reduceCtorEq, hrr, hrz]) | (refine qA ?_ ?_; (first | omega | (simp only [qL]; omega) | (simp only [qD] at *; omega))))
    exact post_out (w1 := w3) (cs := [.string (B o), .string (B se), .slice A1 c1 c2, .int .i64 lo1, .int .i64 hi1']) h3 hb3 (k2.trans k3) hlt rfl (by simp [upd]) hre (fun b hb => ⟨by have := hb.1; omega, hb.2⟩)
  rw [if_neg (by rw [c91]; simp)] at hR1
  rcases Bool.eq_false_or_eq_true (byteAt l s.i == 92) with c92 | c92
  · rw [if_pos c92] at hR1
    injection hR1 with hR1
    subst hR1
    refine Sm.out ?_
    repeat (first | refine qS ?_ | refine qB ?_ | refine qT rfl ?_ | refine qF rfl ?_ | ((first | refine qR rfl ?_ | refine qK ?_ | refine qE ?_ | refine qW ?_ | refine qM ?_); try simp -dsimp (maxSteps := 2000000) (disch := first | omega | (simp only [qZ] <;> omega) | fail) only [push_cast, ↓qP, ↓reduceIte, Nat.reduceEqDiff, Nat.reduceAdd, Nat.reduceMul, Nat.reduceSub, Nat.reduceLeDiff, Int.reduceToNat, reduceCtorEq, e40, c40, e46, c46, e94, c94, e36, c36, e91, c91, e92, c92]) | (refine qA ?_ ?_; (first | omega | (simp only [qL]; omega) | (simp only [qD] at *; omega))))
    refine CallV.of isCall_95 (escape3_any h2 hl (by omega)) ?_
    rintro _ w3 ⟨rfl, h3, k3⟩
    have hb3 := k3.Blk hb2 hne.symm
    have hltr := hb3.lt
    have hrr := hb3.rdc
    have hrz := hb3.fz
    refine Sm.out ?_
    repeat (first | refine qS ?_ | refine qB ?_ | refine qT rfl ?_ | refine qF rfl ?_ | ((first | refine qR rfl ?_ | refine qK ?_ | refine qE ?_ | refine qW ?_ | refine qM ?_); try simp -dsimp (maxSteps := 2000000) (disch := first | omega | (simp only [qZ] <;> omega) | fail) only [push_cast, ↓qP, ↓reduceIte, Nat.reduceEqDiff, Nat.reduceAdd, Nat.reduceMul, Nat.reduceSub, Nat.reduceLeDiff, Int.reduceToNat, reduceCtorEq, by8]) | (refine qA ?_ ?_; (first | omega | (simp only [qL]; omega) | (simp only [qD] at *; omega))))
    refine V_str 63 9 _ rfl se_63 ik_5 isStr_9 [(escape3 l s).1] rfl rfl (.inr ⟨w3.heap.size, 0, rfl, fun j hj => ?_⟩) ?_
    · obtain rfl : j = 0 := by simpa using hj
      exact (Blk.new w3 5 [by8 (escape3 l s).1]).rdc 0
    refine Sm.out ?_
    repeat (first | refine qS ?_ | refine qB ?_ | refine qT rfl ?_ | refine qF rfl ?_ | ((first | refine qR rfl ?_ | refine qK ?_ | refine qE ?_ | refine qW ?_ | refine qM ?_); try simp -dsimp (maxSteps := 2000000) (disch := first | omega | (simp only [qZ] <;> omega) | fail) only [push_cast, ↓qP, ↓reduceIte, Nat.reduceEqDiff, Nat.reduceAdd, Nat.reduceMul, Nat.reduceSub, Nat.reduceLeDiff, Int.reduceToNat, reduceCtorEq, hrr, hrz]) | (refine qA ?_ ?_; (first | omega | (simp only [qL]; omega) | (simp only [qD] at *; omega))))
    exact post_out (w1 := w3.alloc (.cells #[.int .u8 ((escape3 l s).1.toNat : Int)] 5)) (cs := [.string (B opSet), .string (B [(escape3 l s).1]), .slice none 0 0, .int .i64 0, .int .i64 0]) (h3.alloc _) (hb3.alloc _) ((k2.trans k3).alloc _) hlt rfl (by simp [upd]) (set_is _ (fun _ => False) _ _) (fun b h => h.elim)
  rw [if_neg (by rw [c92]; simp)] at hR1
  injection hR1 with hR1
  subst hR1
  refine Sm.out ?_
  repeat (first | refine qS ?_ | refine qB ?_ | refine qT rfl ?_ | refine qF rfl ?_ | ((first | refine qR rfl ?_ | refine qK ?_ | refine qE ?_ | refine qW ?_ | refine qM ?_); try simp -dsimp (maxSteps := 2000000) (disch := first | omega | (simp only [qZ] <;> omega) | fail) only [push_cast, ↓qP, ↓reduceIte, Nat.reduceEqDiff, Nat.reduceAdd, Nat.reduceMul, Nat.reduceSub, Nat.reduceLeDiff, Int.reduceToNat, reduceCtorEq, e40, c40, e46, c46, e94, c94, e36, c36, e91, c91, e92, c92, h2.rdc, h2.fz]) | (refine qA ?_ ?_; (first | omega | (simp only [qL]; omega) | (simp only [qD] at *; omega))))
  have h3 : At3 (w2.setCell ⟨a, 1, none⟩ (.int .i64 ((s.i : Int) + 1))) a l s.on := h2.set 1 _
  have hb3 := hb2.far (p := ⟨a, 1, none⟩) hne.symm (.int .i64 ((s.i : Int) + 1))
  have k3 := k2.setCell (p := ⟨a, 1, none⟩) (fun _ => rfl) (.int .i64 ((s.i : Int) + 1))
  have esz : (w2.setCell ⟨a, 1, none⟩ (.int .i64 ((s.i : Int) + 1))).heap.size = w2.heap.size := by simp
  generalize (w2.setCell ⟨a, 1, none⟩ (.int .i64 ((s.i : Int) + 1))) = w3 at *
  rw [← esz]
  refine V_str 63 9 _ rfl se_63 ik_5 isStr_9 [byteAt l s.i] rfl rfl (.inr ⟨w3.heap.size, 0, rfl, fun j hj => ?_⟩) ?_
  · obtain rfl : j = 0 := by simpa using hj
    exact (Blk.new w3 5 [by8 (byteAt l s.i)]).rdc 0
  have hltr := hb3.lt
  have hrr := hb3.rdc
  have hrz := hb3.fz
  refine Sm.out ?_
  repeat (first | refine qS ?_ | refine qB ?_ | refine qT rfl ?_ | refine qF rfl ?_ | ((first | refine qR rfl ?_ | refine qK ?_ | refine qE ?_ | refine qW ?_ | refine qM ?_); try simp -dsimp (maxSteps := 2000000) (disch := first | omega | (simp only [qZ] <;> omega) | fail) only [push_cast, ↓qP, ↓reduceIte, Nat.reduceEqDiff, Nat.reduceAdd, Nat.reduceMul, Nat.reduceSub, Nat.reduceLeDiff, Int.reduceToNat, reduceCtorEq, hrr, hrz]) | (refine qA ?_ ?_; (first | omega | (simp only [qL]; omega) | (simp only [qD] at *; omega))))
  exact post_out (w1 := w3.alloc (.cells #[.int .u8 ((byteAt l s.i).toNat : Int)] 5)) (cs := [.string (B opSet), .string (B [byteAt l s.i]), .slice none 0 0, .int .i64 0, .int .i64 0]) (h3.alloc _) (hb3.alloc _) (k3.alloc _) hlt rfl (by simp [upd]) (set_is _ (fun _ => False) _ _) (fun b h => h.elim)
end
end Go.Proofs.Ytddichibegppjaa

/- The reference's reader of expressions: size. -/
namespace Go.Proofs.Ytddichibegppjaa
open Go Go.VC

theorem list_eqb (a b : List UInt8) : (a == b) = decide (a = b) := by
  by_cases h : a = b <;> simp [h]
theorem beq_op {a b : List UInt8} {c : Bool} (h : decide (a = b) = c) : (a == b) = c := by rw [list_eqb, h]

section
variable {w : World} {D : Nat → Prop}

theorem size3_any : ∀ e : Re, Good e → wt e ≤ 1000000000 → ∀ (w : World) (cs : List Value), IsRe w D e cs → Calls Try.prog 51 #[.agg cs.toArray] w fun e' w' => e' = .returned (.int .i64 (size3 e)) ∧ Kp (fun _ => False) w w' := by
  refine Re.ind fun op set kids lo hi ih hg hwt w cs h => ?_
  obtain ⟨A, c, rfl⟩ := h.cells
  simp only [wt] at hwt
  have hkl := wts_len kids
  have hgb := hg.bounds
  have hgk := hg.kids
  refine enter (n := 49) (args := [.agg #[.string (B op), .string (B set), .slice A kids.length c, .int .i64 lo, .int .i64 hi]]) Try.func51 rfl rfl rfl (by simp) ?_
  refine Wp.seq (Wp.region rfl ?_)
  simp -dsimp (maxSteps := 2000000) (disch := first | omega | (simp only [qZ] <;> omega) | fail) only [push_cast, ↓qP, ↓reduceIte, Nat.reduceEqDiff, Nat.reduceAdd, Nat.reduceMul, Nat.reduceSub, Nat.reduceLeDiff, Int.reduceToNat, reduceCtorEq]
  refine Wp.gen (A := fun W => Kp (fun _ => False) w W ∧ Blk W w.heap.size 33 [.string (B op), .string (B set), .slice A kids.length c, .int .i64 lo, .int .i64 hi]) ⟨(Kp.refl _ w).alloc _, Blk.new _ _ _⟩ ?_
  rintro w1 ⟨k1, hb1⟩
  refine Wp.seq (Wp.region rfl ?_)
  simp -dsimp (maxSteps := 2000000) (disch := first | omega | (simp only [qZ] <;> omega) | fail) only [push_cast, ↓qP, ↓reduceIte, Nat.reduceEqDiff, Nat.reduceAdd, Nat.reduceMul, Nat.reduceSub, Nat.reduceLeDiff, Int.reduceToNat, reduceCtorEq]
  refine Wp.cut (fun F W => F 1 = .pointer (some ⟨w.heap.size, 0, none⟩) ∧ F 3 = .int .i64 (sizes3 kids 0) ∧ Kp (fun _ => False) w W ∧ Blk W w.heap.size 33 [.string (B op), .string (B set), .slice A kids.length c, .int .i64 lo, .int .i64 hi]) ?_ ?_
  · repeat (first | refine qS ?_ | refine qB ?_ | refine qT rfl ?_ | refine qF rfl ?_ | ((first | refine qR rfl ?_ | refine qK ?_ | refine qE ?_ | refine qW ?_ | refine qM ?_); try simp -dsimp (maxSteps := 2000000) (disch := first | omega | (simp only [qZ] <;> omega) | fail) only [push_cast, ↓qP, ↓reduceIte, Nat.reduceEqDiff, Nat.reduceAdd, Nat.reduceMul, Nat.reduceSub, Nat.reduceLeDiff, Int.reduceToNat, reduceCtorEq]) | (refine qA ?_ ?_; (first | omega | (simp only [qL]; omega) | (simp only [qD] at *; omega))))
    refine Wp.loop (α := Nat) (fun j F W => j ≤ kids.length ∧ F 1 = .pointer (some ⟨w.heap.size, 0, none⟩) ∧ F 3 = .int .i64 (sizes3 (kids.take j) 0) ∧ F 4 = .int .i64 j ∧ Kp (fun _ => False) w W ∧ Blk W w.heap.size 33 [.string (B op), .string (B set), .slice A kids.length c, .int .i64 lo, .int .i64 hi]) (fun j => kids.length - j) 0
      ⟨Nat.zero_le _, by simp [upd], by simp [upd, sizes3], by simp [upd], k1, hb1⟩ ?_
    clear k1 hb1
    rintro j F W ⟨hj, f1, f3, f4, k1, hb1⟩
    have hltp := hb1.lt
    rcases Nat.lt_or_ge j kids.length with hlt | hge
    · have c1 : decide ((j : Int) < (kids.length : Int)) = true := decide_eq_true (by omega)
      have hget : kids[j]? = some kids[j] := List.getElem?_eq_getElem hlt
      obtain ⟨b, o, d0, d1, A1, m1, d2, lo1, hi1, rfl, hbl, hD, q0, q1, q2, q3, q4, hre, _⟩ := h.kid k1 hget
      have hmem : kids[j] ∈ kids := List.getElem_mem hlt
      have hgj := Goods_mem hgk hmem
      have hwj := wts_mem hmem
      have hbd := size3_bound _ hgj
      have hbt := sizes3_bound (ks := kids.take j) (fun k hk => size3_bound _ (Goods_mem hgk (List.mem_of_mem_take hk))) 0 (by omega) (by omega)
      have hsn : sizes3 (kids.take (j + 1)) 0 = min (sizes3 (kids.take j) 0 + size3 kids[j]) 2001 := by rw [List.take_succ_eq_append_getElem hlt, sizes3_snoc]
      repeat (first | refine qS ?_ | refine qB ?_ | refine qT rfl ?_ | refine qF rfl ?_ | ((first | refine qR rfl ?_ | refine qK ?_ | refine qE ?_ | refine qW ?_ | refine qM ?_); try simp -dsimp (maxSteps := 2000000) (disch := first | omega | (simp only [qZ] <;> omega) | fail) only [push_cast, ↓qP, ↓reduceIte, Nat.reduceEqDiff, Nat.reduceAdd, Nat.reduceMul, Nat.reduceSub, Nat.reduceLeDiff, Int.reduceToNat, reduceCtorEq, f1, f3, f4, hb1.rdc, c1, q0, q1, q2, q3, q4]) | (refine qA ?_ ?_; (first | omega | (simp only [qL]; omega) | (simp only [qD] at *; omega))))
      refine CallV.of isCall_51 (ih _ hmem hgj (by omega) W _ hre) ?_
      rintro _ W2 ⟨rfl, k2⟩
      have hb2 := k2.Blk hb1 id
      refine Sm.out ?_
      repeat (first | refine qS ?_ | refine qB ?_ | refine qT rfl ?_ | refine qF rfl ?_ | ((first | refine qR rfl ?_ | refine qK ?_ | refine qE ?_ | refine qW ?_ | refine qM ?_); try simp -dsimp (maxSteps := 2000000) (disch := first | omega | (simp only [qZ] <;> omega) | fail) only [push_cast, ↓qP, ↓reduceIte, Nat.reduceEqDiff, Nat.reduceAdd, Nat.reduceMul, Nat.reduceSub, Nat.reduceLeDiff, Int.reduceToNat, reduceCtorEq, f1, f3, f4]) | (refine qA ?_ ?_; (first | omega | (simp only [qL]; omega) | (simp only [qD] at *; omega))))
      exact Again.mk (j + 1) ⟨by omega, by simp [upd, f1], by simp [upd, hsn], by simp [upd], k1.trans k2, hb2⟩ (by omega)
    · obtain rfl : j = kids.length := by omega
      have c1 : decide ((kids.length : Int) < (kids.length : Int)) = false := decide_eq_false (by omega)
      repeat (first | refine qS ?_ | refine qB ?_ | refine qT rfl ?_ | refine qF rfl ?_ | ((first | refine qR rfl ?_ | refine qK ?_ | refine qE ?_ | refine qW ?_ | refine qM ?_); try simp -dsimp (maxSteps := 2000000) (disch := first | omega | (simp only [qZ] <;> omega) | fail) only [push_cast, ↓qP, ↓reduceIte, Nat.reduceEqDiff, Nat.reduceAdd, Nat.reduceMul, Nat.reduceSub, Nat.reduceLeDiff, Int.reduceToNat, reduceCtorEq, f1, f3, f4, hb1.rdc, c1]) | (refine qA ?_ ?_; (first | omega | (simp only [qL]; omega) | (simp only [qD] at *; omega))))
      exact Mid.mk ⟨by simp [upd, f1], by simp [upd, f3], k1, hb1⟩
  clear k1 hb1
  rintro F w2 ⟨f1, f3, k1, hb1⟩
  have hltp := hb1.lt
  have hbt := sizes3_bound (ks := kids) (fun k hk => size3_bound _ (Goods_mem hgk hk)) 0 (by omega) (by omega)
  have e1 : (op == [115, 101, 116]) = decide (op = opSet) := list_eqb _ _
  have e2 : (op == [98, 111, 108]) = decide (op = opBol) := list_eqb _ _
  have e3 : (op == [101, 111, 108]) = decide (op = opEol) := list_eqb _ _
  have e4 : (op == [97, 108, 116]) = decide (op = opAlt) := list_eqb _ _
  have e5 : (op == [114, 101, 112]) = decide (op = opRep) := list_eqb _ _
  simp only [size3]
  generalize sizes3 kids 0 = n at *
  by_cases c1 : op = opSet
  · rw [decide_eq_true c1] at e1
    rw [if_pos c1]
    repeat (first | refine qS ?_ | refine qB ?_ | refine qT rfl ?_ | refine qF rfl ?_ | ((first | refine qR rfl ?_ | refine qK ?_ | refine qE ?_ | refine qW ?_ | refine qM ?_); try simp -dsimp (maxSteps := 2000000) (disch := first | omega | (simp only [qZ] <;> omega) | fail) only [push_cast, ↓qP, ↓reduceIte, Nat.reduceEqDiff, Nat.reduceAdd, Nat.reduceMul, Nat.reduceSub, Nat.reduceLeDiff, Int.reduceToNat, reduceCtorEq, f1, f3, hb1.rdc, e1]) | (refine qA ?_ ?_; (first | omega | (simp only [qL]; omega) | (simp only [qD] at *; omega))))
    exact Ret.mk ⟨rfl, k1⟩
  rw [decide_eq_false c1] at e1
  rw [if_neg c1]
  by_cases c2 : op = opBol
  · rw [decide_eq_true c2] at e2
    rw [if_pos c2]
    repeat (first | refine qS ?_ | refine qB ?_ | refine qT rfl ?_ | refine qF rfl ?_ | ((first | refine qR rfl ?_ | refine qK ?_ | refine qE ?_ | refine qW ?_ | refine qM ?_); try simp -dsimp (maxSteps := 2000000) (disch := first | omega | (simp only [qZ] <;> omega) | fail) only [push_cast, ↓qP, ↓reduceIte, Nat.reduceEqDiff, Nat.reduceAdd, Nat.reduceMul, Nat.reduceSub, Nat.reduceLeDiff, Int.reduceToNat, reduceCtorEq, f1, f3, hb1.rdc, e1, e2]) | (refine qA ?_ ?_; (first | omega | (simp only [qL]; omega) | (simp only [qD] at *; omega))))
    exact Ret.mk ⟨rfl, k1⟩
  rw [decide_eq_false c2] at e2
  rw [if_neg c2]
  by_cases c3 : op = opEol
  · rw [decide_eq_true c3] at e3
    rw [if_pos c3]
    repeat (first | refine qS ?_ | refine qB ?_ | refine qT rfl ?_ | refine qF rfl ?_ | ((first | refine qR rfl ?_ | refine qK ?_ | refine qE ?_ | refine qW ?_ | refine qM ?_); try simp -dsimp (maxSteps := 2000000) (disch := first | omega | (simp only [qZ] <;> omega) | fail) only [push_cast, ↓qP, ↓reduceIte, Nat.reduceEqDiff, Nat.reduceAdd, Nat.reduceMul, Nat.reduceSub, Nat.reduceLeDiff, Int.reduceToNat, reduceCtorEq, f1, f3, hb1.rdc, e1, e2, e3]) | (refine qA ?_ ?_; (first | omega | (simp only [qL]; omega) | (simp only [qD] at *; omega))))
    exact Ret.mk ⟨rfl, k1⟩
  rw [decide_eq_false c3] at e3
  rw [if_neg c3]
  by_cases c4 : op = opAlt
  · rw [decide_eq_true c4] at e4
    rw [if_pos c4]
    repeat (first | refine qS ?_ | refine qB ?_ | refine qT rfl ?_ | refine qF rfl ?_ | ((first | refine qR rfl ?_ | refine qK ?_ | refine qE ?_ | refine qW ?_ | refine qM ?_); try simp -dsimp (maxSteps := 2000000) (disch := first | omega | (simp only [qZ] <;> omega) | fail) only [push_cast, ↓qP, ↓reduceIte, Nat.reduceEqDiff, Nat.reduceAdd, Nat.reduceMul, Nat.reduceSub, Nat.reduceLeDiff, Int.reduceToNat, reduceCtorEq, f1, f3, hb1.rdc, e1, e2, e3, e4]) | (refine qA ?_ ?_; (first | omega | (simp only [qL]; omega) | (simp only [qD] at *; omega))))
    exact Ret.mk ⟨rfl, k1⟩
  rw [decide_eq_false c4] at e4
  rw [if_neg c4]
  by_cases c5 : op = opRep
  · rw [decide_eq_true c5] at e5
    rw [if_pos c5]
    obtain ⟨b1, b2, b3, b4, b5, _⟩ := hgb c5
    clear hgb ih
    rcases Bool.eq_false_or_eq_true (decide (hi < 0)) with c6 | c6
    · have c6' : hi < 0 := by simpa using c6
      rw [if_pos c6']
      have hm1 : 0 ≤ n * (lo + 1) := Int.mul_nonneg hbt.1 (by omega)
      have hm2 : n * (lo + 1) ≤ 2001 * 256 := Int.mul_le_mul hbt.2 (by omega) (by omega) (by omega)
      repeat (first | refine qS ?_ | refine qB ?_ | refine qT rfl ?_ | refine qF rfl ?_ | ((first | refine qR rfl ?_ | refine qK ?_ | refine qE ?_ | refine qW ?_ | refine qM ?_); try simp -dsimp (maxSteps := 2000000) (disch := first | omega | (simp only [qZ] <;> omega) | fail) only [push_cast, ↓qP, ↓reduceIte, Nat.reduceEqDiff, Nat.reduceAdd, Nat.reduceMul, Nat.reduceSub, Nat.reduceLeDiff, Int.reduceToNat, reduceCtorEq, f1, f3, hb1.rdc, e1, e2, e3, e4, e5, c6]) | (refine qA ?_ ?_; (first | omega | (simp only [qL]; omega) | (simp only [qD] at *; omega))))
      exact Ret.mk ⟨rfl, k1⟩
    · have c6' : ¬ hi < 0 := by simpa using c6
      rw [if_neg c6']
      have hm1 : 0 ≤ n * max 1 hi := Int.mul_nonneg hbt.1 (by omega)
      have hm2 : n * max 1 hi ≤ 2001 * 256 := Int.mul_le_mul hbt.2 (by omega) (by omega) (by omega)
      repeat (first | refine qS ?_ | refine qB ?_ | refine qT rfl ?_ | refine qF rfl ?_ | ((first | refine qR rfl ?_ | refine qK ?_ | refine qE ?_ | refine qW ?_ | refine qM ?_); try simp -dsimp (maxSteps := 2000000) (disch := first | omega | (simp only [qZ] <;> omega) | fail) only [push_cast, ↓qP, ↓reduceIte, Nat.reduceEqDiff, Nat.reduceAdd, Nat.reduceMul, Nat.reduceSub, Nat.reduceLeDiff, Int.reduceToNat, reduceCtorEq, f1, f3, hb1.rdc, e1, e2, e3, e4, e5, c6]) | (refine qA ?_ ?_; (first | omega | (simp only [qL]; omega) | (simp only [qD] at *; omega))))
      exact Ret.mk ⟨rfl, k1⟩
  rw [decide_eq_false c5] at e5
  rw [if_neg c5]
  repeat (first | refine qS ?_ | refine qB ?_ | refine qT rfl ?_ | refine qF rfl ?_ | ((first | refine qR rfl ?_ | refine qK ?_ | refine qE ?_ | refine qW ?_ | refine qM ?_); try simp -dsimp (maxSteps := 2000000) (disch := first | omega | (simp only [qZ] <;> omega) | fail) only [push_cast, ↓qP, ↓reduceIte, Nat.reduceEqDiff, Nat.reduceAdd, Nat.reduceMul, Nat.reduceSub, Nat.reduceLeDiff, Int.reduceToNat, reduceCtorEq, f1, f3, hb1.rdc, e1, e2, e3, e4, e5]) | (refine qA ?_ ?_; (first | omega | (simp only [qL]; omega) | (simp only [qD] at *; omega))))
  exact Ret.mk ⟨rfl, k1⟩
end
end Go.Proofs.Ytddichibegppjaa

/- The program's size of a tree. -/
namespace Go.Proofs.Ytddichibegppjaa
open Go Go.VC Go.RowKit

def sumS (ks : List Re) : Int := (ks.map size3).sum
theorem sumS_snoc (ks : List Re) (k : Re) : sumS (ks ++ [k]) = sumS ks + size3 k := by simp [sumS]
theorem sumS_bound {ks : List Re} (hk : ∀ k ∈ ks, 0 ≤ size3 k ∧ size3 k ≤ 2001) : 0 ≤ sumS ks ∧ sumS ks ≤ 2001 * ks.length := by
  induction ks with
  | nil => simp [sumS]
  | cons k ks ih =>
    have h1 := hk k (by simp)
    have h2 := ih fun k h => hk k (by simp [h])
    simp only [sumS, List.map_cons, List.sum_cons, List.length_cons] at h2 ⊢
    omega
theorem sizes3_tot {ks : List Re} (hk : ∀ k ∈ ks, 0 ≤ size3 k ∧ size3 k ≤ 2001) : ∀ n, 0 ≤ n → n ≤ 2001 → sizes3 ks n = min (n + sumS ks) 2001 := by
  induction ks with
  | nil => intro n h1 h2; simp only [sizes3, sumS, List.map_nil, List.sum_nil]; omega
  | cons k ks ih =>
    intro n h1 h2
    have h3 := hk k (by simp)
    have h4 := sumS_bound (ks := ks) fun k h => hk k (by simp [h])
    rw [sizes3, ih (fun k h => hk k (by simp [h])) _ (by omega) (by omega)]
    simp only [sumS, List.map_cons, List.sum_cons] at h4 ⊢
    omega

section
variable {w : World} {D : Nat → Prop}
theorem sizeE_any : ∀ e : Re, Good e → wt e ≤ 1000000000 → ∀ (w : World) (cs : List Value), IsRe w D e cs → Calls Try.prog 82 #[.agg cs.toArray] w fun e' w' => e' = .returned (.int .i64 (size3 e)) ∧ Kp (fun _ => False) w w' := by
  refine Re.ind fun op set kids lo hi ih hg hwt w cs h => ?_
  obtain ⟨A, c, rfl⟩ := h.cells
  simp only [wt] at hwt
  have hkl := wts_len kids
  have hgb := hg.bounds
  have hgk := hg.kids
  have hks : ∀ k ∈ kids, 0 ≤ size3 k ∧ size3 k ≤ 2001 := fun k hk => size3_bound _ (Goods_mem hgk hk)
  have hsum := sizes3_tot hks 0 (by omega) (by omega)
  have hsb := sumS_bound hks
  rw [Int.zero_add] at hsum
  refine enter (n := 44) (args := [.agg #[.string (B op), .string (B set), .slice A kids.length c, .int .i64 lo, .int .i64 hi]]) Try.func82 rfl rfl rfl (by simp) ?_
  refine Wp.seq (Wp.region rfl ?_)
  simp -dsimp (maxSteps := 2000000) (disch := first | omega | (simp only [qZ] <;> omega) | fail) only [push_cast, ↓qP, ↓reduceIte, Nat.reduceEqDiff, Nat.reduceAdd, Nat.reduceMul, Nat.reduceSub, Nat.reduceLeDiff, Int.reduceToNat, reduceCtorEq]
  refine Wp.gen (A := fun W => Kp (fun _ => False) w W ∧ Blk W w.heap.size 33 [.string (B op), .string (B set), .slice A kids.length c, .int .i64 lo, .int .i64 hi]) ⟨(Kp.refl _ w).alloc _, Blk.new _ _ _⟩ ?_
  rintro w1 ⟨k1, hb1⟩
  obtain ⟨q, hq⟩ : ∃ q, q = w.heap.size := ⟨_, rfl⟩
  rw [← hq] at hb1 ⊢
  refine Sm.out ?_
  repeat (first | ((fail_if_success (first | refine qY (n := 2) ?_ | refine qV (n := 2) ?_)); refine qS ?_) | refine qB ?_ | refine qT rfl ?_ | refine qF rfl ?_ | ((first | refine qR rfl ?_ | refine qK ?_ | refine qE ?_ | refine qW ?_ | refine qM ?_); try simp -dsimp (maxSteps := 2000000) (disch := first | omega | (simp only [qZ] <;> omega) | fail) only [push_cast, ↓qP, ↓reduceIte, Nat.reduceEqDiff, Nat.reduceAdd, Nat.reduceMul, Nat.reduceSub, Nat.reduceLeDiff, Int.reduceToNat, reduceCtorEq]) | (refine qA ?_ ?_; (first | omega | (simp only [qL]; omega) | (simp only [qD] at *; omega))))
  refine Wp.cut (fun F W => F 1 = .pointer (some ⟨q, 0, none⟩) ∧ F 3 = .int .i64 (sumS kids) ∧ Kp (fun _ => False) w W ∧ Blk W q 33 [.string (B op), .string (B set), .slice A kids.length c, .int .i64 lo, .int .i64 hi]) ?_ ?_
  · have hltq := hb1.lt
    repeat (first | refine qS ?_ | refine qB ?_ | refine qT rfl ?_ | refine qF rfl ?_ | ((first | refine qR rfl ?_ | refine qK ?_ | refine qE ?_ | refine qW ?_ | refine qM ?_); try simp -dsimp (maxSteps := 2000000) (disch := first | omega | (simp only [qZ] <;> omega) | fail) only [push_cast, ↓qP, ↓reduceIte, Nat.reduceEqDiff, Nat.reduceAdd, Nat.reduceMul, Nat.reduceSub, Nat.reduceLeDiff, Int.reduceToNat, reduceCtorEq, hb1.rdc]) | (refine qA ?_ ?_; (first | omega | (simp only [qL]; omega) | (simp only [qD] at *; omega))))
    refine Wp.loop (α := Nat) (fun j F W => j ≤ kids.length ∧ F 1 = .pointer (some ⟨q, 0, none⟩) ∧ F 3 = .int .i64 (sumS (kids.take j)) ∧ F 8 = .slice A kids.length c ∧ F 9 = .int .i64 (kids.length : Int) ∧ F 10 = .int .i64 j ∧ Kp (fun _ => False) w W ∧ Blk W q 33 [.string (B op), .string (B set), .slice A kids.length c, .int .i64 lo, .int .i64 hi]) (fun j => kids.length - j) 0
      ⟨Nat.zero_le _, by simp [upd], by simp [upd, sumS], by simp [upd], by simp [upd], by simp [upd], k1, hb1⟩ ?_
    clear k1 hb1 hltq
    rintro j F W ⟨hj, f1, f3, f8, f9, f10, k1, hb1⟩
    have hltp := hb1.lt
    rcases Nat.lt_or_ge j kids.length with hlt | hge
    · have c1 : decide ((j : Int) < (kids.length : Int)) = true := decide_eq_true (by omega)
      have hget : kids[j]? = some kids[j] := List.getElem?_eq_getElem hlt
      obtain ⟨b, o, d0, d1, A1, m1, d2, lo1, hi1, rfl, hbl, hD, q0, q1, q2, q3, q4, hre, _⟩ := h.kid k1 hget
      have hmem : kids[j] ∈ kids := List.getElem_mem hlt
      have hgj := Goods_mem hgk hmem
      have hwj := wts_mem hmem
      have hbd := size3_bound _ hgj
      have hbt := sumS_bound (ks := kids.take j) (fun k hk => hks k (List.mem_of_mem_take hk))
      have hsn : sumS (kids.take (j + 1)) = sumS (kids.take j) + size3 kids[j] := by rw [List.take_succ_eq_append_getElem hlt, sumS_snoc]
      have hbl2 : (kids.take j).length = j := by simp; omega
      rw [hbl2] at hbt
      repeat (first | refine qS ?_ | refine qB ?_ | refine qT rfl ?_ | refine qF rfl ?_ | ((first | refine qR rfl ?_ | refine qK ?_ | refine qE ?_ | refine qW ?_ | refine qM ?_); try simp -dsimp (maxSteps := 2000000) (disch := first | omega | (simp only [qZ] <;> omega) | fail) only [push_cast, ↓qP, ↓reduceIte, Nat.reduceEqDiff, Nat.reduceAdd, Nat.reduceMul, Nat.reduceSub, Nat.reduceLeDiff, Int.reduceToNat, reduceCtorEq, f1, f3, f8, f9, f10, c1, q0, q1, q2, q3, q4]) | (refine qA ?_ ?_; (first | omega | (simp only [qL]; omega) | (simp only [qD] at *; omega))))
      have hkk : Kp (fun _ => False) W ((W.alloc (.cells zRe.toArray 33)).setCells W.heap.size 0 [.string (B d0), .string (B d1), .slice A1 m1 d2, .int .i64 lo1, .int .i64 hi1]) := ((Kp.refl (fun _ => False) W).alloc _).setCells (fun h => absurd h (Nat.lt_irrefl _)) [.string (B d0), .string (B d1), .slice A1 m1 d2, .int .i64 lo1, .int .i64 hi1] 0
      refine CallV.gen (A := fun W' => Kp (fun _ => False) W W') hkk ?_
      clear hkk q0 q1 q2 q3 q4
      intro W2 k2
      refine CallV.of isCall_82 (ih _ hmem hgj (by omega) W2 _ (hre.Kp (D' := D) k2 (fun _ _ => id) (fun _ h => h))) ?_
      rintro _ W3 ⟨rfl, k3⟩
      refine Sm.out ?_
      repeat (first | refine qS ?_ | refine qB ?_ | refine qT rfl ?_ | refine qF rfl ?_ | ((first | refine qR rfl ?_ | refine qK ?_ | refine qE ?_ | refine qW ?_ | refine qM ?_); try simp -dsimp (maxSteps := 2000000) (disch := first | omega | (simp only [qZ] <;> omega) | fail) only [push_cast, ↓qP, ↓reduceIte, Nat.reduceEqDiff, Nat.reduceAdd, Nat.reduceMul, Nat.reduceSub, Nat.reduceLeDiff, Int.reduceToNat, reduceCtorEq, f3, f10]) | (refine qA ?_ ?_; (first | omega | (simp only [qL]; omega) | (simp only [qD] at *; omega))))
      exact Again.mk (j + 1) ⟨by omega, by simp [upd, f1], by simp [upd, hsn], by simp [upd, f8], by simp [upd, f9], by simp [upd], (k1.trans k2).trans k3, k3.Blk (k2.Blk hb1 id) id⟩ (by omega)
    · obtain rfl : j = kids.length := by omega
      have c1 : decide ((kids.length : Int) < (kids.length : Int)) = false := decide_eq_false (by omega)
      rw [List.take_length] at f3
      repeat (first | refine qS ?_ | refine qB ?_ | refine qT rfl ?_ | refine qF rfl ?_ | ((first | refine qR rfl ?_ | refine qK ?_ | refine qE ?_ | refine qW ?_ | refine qM ?_); try simp -dsimp (maxSteps := 2000000) (disch := first | omega | (simp only [qZ] <;> omega) | fail) only [push_cast, ↓qP, ↓reduceIte, Nat.reduceEqDiff, Nat.reduceAdd, Nat.reduceMul, Nat.reduceSub, Nat.reduceLeDiff, Int.reduceToNat, reduceCtorEq, f9, f10, c1]) | (refine qA ?_ ?_; (first | omega | (simp only [qL]; omega) | (simp only [qD] at *; omega))))
      exact Mid.mk ⟨by simp [upd, f1], by simp [upd, f3], k1, hb1⟩
  clear k1 hb1
  rintro F w2 ⟨f1, f3, k1, hb1⟩
  have hltp := hb1.lt
  have e1 : (op == [99, 97, 116]) = decide (op = opCat) := list_eqb _ _
  have e4 : (op == [97, 108, 116]) = decide (op = opAlt) := list_eqb _ _
  have e5 : (op == [114, 101, 112]) = decide (op = opRep) := list_eqb _ _
  simp only [size3]
  rw [hsum]
  generalize sumS kids = n at *
  obtain ⟨n1, n2, n3, n4, n5, n6, n7, n8, n9, n10, n11, n12, n13, n14, n15⟩ := op_ne
  by_cases c1 : op = opCat
  · rw [decide_eq_true c1] at e1
    subst c1
    rw [if_neg n3.symm, if_neg n7.symm, if_neg n10.symm, if_neg n13, if_neg n14, show min (min n 2001) 2001 = min n 2001 by omega]
    repeat (first | refine qS ?_ | refine qB ?_ | refine qT rfl ?_ | refine qF rfl ?_ | ((first | refine qR rfl ?_ | refine qK ?_ | refine qE ?_ | refine qW ?_ | refine qM ?_); try simp -dsimp (maxSteps := 2000000) (disch := first | omega | (simp only [qZ] <;> omega) | fail) only [push_cast, ↓qP, ↓reduceIte, Nat.reduceEqDiff, Nat.reduceAdd, Nat.reduceMul, Nat.reduceSub, Nat.reduceLeDiff, Int.reduceToNat, reduceCtorEq, f1, f3, hb1.rdc, e1]) | (refine qA ?_ ?_; (first | omega | (simp only [qL]; omega) | (simp only [qD] at *; omega))))
    exact Ret.mk ⟨rfl, k1⟩
  rw [decide_eq_false c1] at e1
  by_cases c4 : op = opAlt
  · rw [decide_eq_true c4] at e4
    subst c4
    rw [if_neg n4.symm, if_neg n8.symm, if_neg n11.symm, if_pos rfl]
    have hmm : min (min n 2001 + 1) 2001 = min (n + 1) 2001 := by omega
    rw [hmm]
    repeat (first | refine qS ?_ | refine qB ?_ | refine qT rfl ?_ | refine qF rfl ?_ | ((first | refine qR rfl ?_ | refine qK ?_ | refine qE ?_ | refine qW ?_ | refine qM ?_); try simp -dsimp (maxSteps := 2000000) (disch := first | omega | (simp only [qZ] <;> omega) | fail) only [push_cast, ↓qP, ↓reduceIte, Nat.reduceEqDiff, Nat.reduceAdd, Nat.reduceMul, Nat.reduceSub, Nat.reduceLeDiff, Int.reduceToNat, reduceCtorEq, f1, f3, hb1.rdc, e1, e4]) | (refine qA ?_ ?_; (first | omega | (simp only [qL]; omega) | (simp only [qD] at *; omega))))
    exact Ret.mk ⟨rfl, k1⟩
  rw [decide_eq_false c4] at e4
  by_cases c5 : op = opRep
  · rw [decide_eq_true c5] at e5
    obtain ⟨b1, b2, b3, b4, b5, b6⟩ := hgb c5
    rw [b6] at hsb
    have hn : min n 2001 = n := by omega
    subst c5
    rw [if_neg n5.symm, if_neg n9.symm, if_neg n12.symm, if_neg (fun e => n15 e.symm), if_pos rfl, hn]
    clear hgb ih
    rcases Bool.eq_false_or_eq_true (decide (hi < 0)) with c6 | c6
    · have c6' : hi < 0 := by simpa using c6
      rw [if_pos c6']
      have hm1 : 0 ≤ n * (lo + 1) := Int.mul_nonneg hsb.1 (by omega)
      have hm2 : n * (lo + 1) ≤ 2001 * 256 := Int.mul_le_mul hsb.2 (by omega) (by omega) (by omega)
      repeat (first | refine qS ?_ | refine qB ?_ | refine qT rfl ?_ | refine qF rfl ?_ | ((first | refine qR rfl ?_ | refine qK ?_ | refine qE ?_ | refine qW ?_ | refine qM ?_); try simp -dsimp (maxSteps := 2000000) (disch := first | omega | (simp only [qZ] <;> omega) | fail) only [push_cast, ↓qP, ↓reduceIte, Nat.reduceEqDiff, Nat.reduceAdd, Nat.reduceMul, Nat.reduceSub, Nat.reduceLeDiff, Int.reduceToNat, reduceCtorEq, f1, f3, hb1.rdc, e1, e4, e5, c6]) | (refine qA ?_ ?_; (first | omega | (simp only [qL]; omega) | (simp only [qD] at *; omega))))
      exact Ret.mk ⟨rfl, k1⟩
    · have c6' : ¬ hi < 0 := by simpa using c6
      rw [if_neg c6']
      have hm1 : 0 ≤ n * max 1 hi := Int.mul_nonneg hsb.1 (by omega)
      have hm2 : n * max 1 hi ≤ 2001 * 256 := Int.mul_le_mul hsb.2 (by omega) (by omega) (by omega)
      repeat (first | refine qS ?_ | refine qB ?_ | refine qT rfl ?_ | refine qF rfl ?_ | ((first | refine qR rfl ?_ | refine qK ?_ | refine qE ?_ | refine qW ?_ | refine qM ?_); try simp -dsimp (maxSteps := 2000000) (disch := first | omega | (simp only [qZ] <;> omega) | fail) only [push_cast, ↓qP, ↓reduceIte, Nat.reduceEqDiff, Nat.reduceAdd, Nat.reduceMul, Nat.reduceSub, Nat.reduceLeDiff, Int.reduceToNat, reduceCtorEq, f1, f3, hb1.rdc, e1, e4, e5, c6]) | (refine qA ?_ ?_; (first | omega | (simp only [qL]; omega) | (simp only [qD] at *; omega))))
      exact Ret.mk ⟨rfl, k1⟩
  rw [decide_eq_false c5] at e5
  have hop : op = opSet ∨ op = opBol ∨ op = opEol := by
    simp only [Good] at hg
    rcases hg with ⟨h, _⟩ | ⟨h, _⟩ | ⟨h, _⟩ | ⟨h, _⟩ | ⟨h, _⟩ | ⟨h, _⟩
    · exact .inl h
    · exact .inr (.inl h)
    · exact .inr (.inr h)
    · exact absurd h c1
    · exact absurd h c4
    · exact absurd h c5
  have h1 : (if op = opSet then (1 : Int) else if op = opBol then 1 else if op = opEol then 1
    else if op = opAlt then min (min n 2001 + 1) 2001
    else if op = opRep then min (min n 2001 * (if hi < 0 then lo + 1 else max 1 hi) + 1) 2001
    else min (min n 2001) 2001) = 1 := by
    rcases hop with h | h | h
    · rw [if_pos h]
    · rw [if_neg (fun e => n1 (e.symm.trans h)), if_pos h]
    · rw [if_neg (fun e => n2 (e.symm.trans h)), if_neg (fun e => n6 (e.symm.trans h)), if_pos h]
  rw [h1]
  repeat (first | refine qS ?_ | refine qB ?_ | refine qT rfl ?_ | refine qF rfl ?_ | ((first | refine qR rfl ?_ | refine qK ?_ | refine qE ?_ | refine qW ?_ | refine qM ?_); try simp -dsimp (maxSteps := 2000000) (disch := first | omega | (simp only [qZ] <;> omega) | fail) only [push_cast, ↓qP, ↓reduceIte, Nat.reduceEqDiff, Nat.reduceAdd, Nat.reduceMul, Nat.reduceSub, Nat.reduceLeDiff, Int.reduceToNat, reduceCtorEq, f1, f3, hb1.rdc, e1, e4, e5]) | (refine qA ?_ ?_; (first | omega | (simp only [qL]; omega) | (simp only [qD] at *; omega))))
  exact Ret.mk ⟨rfl, k1⟩
end
end Go.Proofs.Ytddichibegppjaa

/- The program's Parse: a closure that recovers. -/
namespace Go.Proofs.Ytddichibegppjaa
open Go Go.VC Go.RowKit

theorem wp_iff {P : Program} {n : Nat} {ds : List Deferred} {c : Code} {F : Fr} {w : World} {Q : Exit → Fr → World → Prop} (h : Wp P n ds c F w Q) : ∀ a, Rep n ds F a → c.wp P (fun e a' w' => ∃ F', Rep n ds F' a' ∧ Q e F' w') a w := by
  unfold Wp at h; exact h

theorem closure_of {c : Code} {F : Fr} {a : Act} {w : World} {u' : FrameMode} {c₀ c₁ : Frame} {cs : List Frame} {R : Ending → FrameMode → World → Prop}
    (h : Wp Try.prog 13 [] c F w fun e _ w' => e = .normal ∧ R (.returned (.tuple #[])) u' w') (hr : Rep 13 [] F a) (hc : c₁ = { c₀ with mode := u' }) : c.wpS Try.prog (bodyPostS Try.prog Try.f80 c₀ cs R) a (c₁ :: cs) w := by
  refine wpS_of_wp (Go.wp_mono (wp_iff h a hr) ?_)
  rintro e a' w' ⟨F', hr', he, hR⟩
  subst he
  exact ⟨hr'.defs, u', by rw [hc], .tuple #[], run_results hr' (rs := []) rfl rfl, hR⟩
theorem rep_self {n : Nat} {a : Act} (h1 : a.tmps.size = n) (h2 : a.defers = []) : Rep n [] (fun i => a.tmps.getD i undef) a := ⟨h1, h2, fun _ => rfl⟩
/-- The closure, where nothing panics. -/
theorem catch_idle (e c : Nat) (w : World) : CallsD Try.prog 80 #[.pointer (some ⟨e, 0, none⟩), .pointer (some ⟨c, 0, none⟩)] .returning w fun x u' w' => x = .returned (.tuple #[]) ∧ u' = .returning ∧ w' = w := by
  refine callsD_of_wpS Try.func80 rfl fun c₀ cs hu => ?_
  apply wpS_seq
  apply wpS_region
  simp [wpOpsS, go_sem, recoverD, hu, Exit.thenS]
  generalize ha : Act.mk _ _ = a
  have hF := rep_self (n := 13) (a := a) (by rw [← ha]; rfl) (by rw [← ha])
  have h0 : a.tmps.getD 0 undef = .pointer (some ⟨e, 0, none⟩) := by rw [← ha]; rfl
  have h1 : a.tmps.getD 1 undef = .pointer (some ⟨c, 0, none⟩) := by rw [← ha]; rfl
  have h5 : a.tmps.getD 5 undef = .nilIface := by rw [← ha]; rfl
  generalize hFF : (fun i => a.tmps.getD i undef) = F at hF
  have f0 : F 0 = a.tmps.getD 0 undef := by rw [← hFF]
  rw [h0] at f0
  have f1 : F 1 = a.tmps.getD 1 undef := by rw [← hFF]
  rw [h1] at f1
  have f5 : F 5 = a.tmps.getD 5 undef := by rw [← hFF]
  rw [h5] at f5
  clear hFF ha h0 h1 h5
  refine closure_of (u' := .returning) ?_ hF (by cases c₀; simp_all)
  repeat (first | refine qS ?_ | refine qB ?_ | refine qT rfl ?_ | refine qF rfl ?_ | ((first | refine qR rfl ?_ | refine qK ?_ | refine qE ?_ | refine qW ?_ | refine qM ?_); try simp -dsimp (maxSteps := 2000000) (disch := first | omega | (simp only [qZ] <;> omega) | fail) only [push_cast, ↓qP, ↓reduceIte, Nat.reduceEqDiff, Nat.reduceAdd, Nat.reduceMul, Nat.reduceSub, Nat.reduceLeDiff, Int.reduceToNat, reduceCtorEq, f5]) | (refine qA ?_ ?_; (first | omega | (simp only [qL]; omega) | (simp only [qD] at *; omega))))
  refine OpV.of_run (v := .bool true) (w' := w) (by simp only [execOp, ev, f5]; kernel_rfl) ?_
  refine Sm.out ?_
  repeat (first | refine qS ?_ | refine qB ?_ | refine qT rfl ?_ | refine qF rfl ?_ | ((first | refine qR rfl ?_ | refine qK ?_ | refine qE ?_ | refine qW ?_ | refine qM ?_); try simp -dsimp (maxSteps := 2000000) (disch := first | omega | (simp only [qZ] <;> omega) | fail) only [push_cast, ↓qP, ↓reduceIte, Nat.reduceEqDiff, Nat.reduceAdd, Nat.reduceMul, Nat.reduceSub, Nat.reduceLeDiff, Int.reduceToNat, reduceCtorEq, f5]) | (refine qA ?_ ?_; (first | omega | (simp only [qL]; omega) | (simp only [qD] at *; omega))))
/-- The closure, where a fault panics. -/
theorem catch_fault (e c : Nat) (k : Int) (w : World) (ce cc : List Value) (he : Blk w e 33 ce) (hc : Blk w c 3 cc) (hle : ce.length = 5) (hlc : cc.length = 1) (hne : e ≠ c) : CallsD Try.prog 80 #[.pointer (some ⟨e, 0, none⟩), .pointer (some ⟨c, 0, none⟩)] (.panicking (flt k)) w fun x u' w' => x = .returned (.tuple #[]) ∧ u' = .panicking [{ v := .iface 130 (.int .i64 k), recovered := true }] ∧ w' = (w.setCells e 0 zRe).setCell ⟨c, 0, none⟩ (.int .i64 k) := by
  refine callsD_of_wpS Try.func80 rfl fun c₀ cs hu => ?_
  apply wpS_seq
  apply wpS_region
  simp [wpOpsS, go_sem, recoverD, hu, Exit.thenS, flt]
  generalize ha : Act.mk _ _ = a
  have hF := rep_self (n := 13) (a := a) (by rw [← ha]; rfl) (by rw [← ha])
  have h0 : a.tmps.getD 0 undef = .pointer (some ⟨e, 0, none⟩) := by rw [← ha]; rfl
  have h1 : a.tmps.getD 1 undef = .pointer (some ⟨c, 0, none⟩) := by rw [← ha]; rfl
  have h5 : a.tmps.getD 5 undef = .iface 130 (.int .i64 k) := by rw [← ha]; rfl
  generalize hFF : (fun i => a.tmps.getD i undef) = F at hF
  have f0 : F 0 = a.tmps.getD 0 undef := by rw [← hFF]
  rw [h0] at f0
  have f1 : F 1 = a.tmps.getD 1 undef := by rw [← hFF]
  rw [h1] at f1
  have f5 : F 5 = a.tmps.getD 5 undef := by rw [← hFF]
  rw [h5] at f5
  clear hFF ha h0 h1 h5
  refine closure_of (u' := .panicking [{ v := .iface 130 (.int .i64 k), recovered := true }]) ?_ hF rfl
  repeat (first | refine qS ?_ | refine qB ?_ | refine qT rfl ?_ | refine qF rfl ?_ | ((first | refine qR rfl ?_ | refine qK ?_ | refine qE ?_ | refine qW ?_ | refine qM ?_); try simp -dsimp (maxSteps := 2000000) (disch := first | omega | (simp only [qZ] <;> omega) | fail) only [push_cast, ↓qP, ↓reduceIte, Nat.reduceEqDiff, Nat.reduceAdd, Nat.reduceMul, Nat.reduceSub, Nat.reduceLeDiff, Int.reduceToNat, reduceCtorEq, f5]) | (refine qA ?_ ?_; (first | omega | (simp only [qL]; omega) | (simp only [qD] at *; omega))))
  refine OpV.of_run (v := .bool false) (w' := w) (by simp only [execOp, ev, f5]; kernel_rfl) ?_
  refine Sm.out ?_
  repeat (first | refine qS ?_ | refine qB ?_ | refine qT rfl ?_ | refine qF rfl ?_ | ((first | refine qR rfl ?_ | refine qK ?_ | refine qE ?_ | refine qW ?_ | refine qM ?_); try simp -dsimp (maxSteps := 2000000) (disch := first | omega | (simp only [qZ] <;> omega) | fail) only [push_cast, ↓qP, ↓reduceIte, Nat.reduceEqDiff, Nat.reduceAdd, Nat.reduceMul, Nat.reduceSub, Nat.reduceLeDiff, Int.reduceToNat, reduceCtorEq, f5]) | (refine qA ?_ ?_; (first | omega | (simp only [qL]; omega) | (simp only [qD] at *; omega))))
  refine OpV.of_run (v := .tuple #[.int .i64 k, .bool true]) (w' := w) (by simp only [execOp, ev, upd, f5]; kernel_rfl) ?_
  obtain ⟨x0, x1, x2, x3, x4, rfl⟩ : ∃ x0 x1 x2 x3 x4, ce = [x0, x1, x2, x3, x4] := by
    match ce, hle with
    | [x0, x1, x2, x3, x4], _ => exact ⟨x0, x1, x2, x3, x4, rfl⟩
  obtain ⟨y, rfl⟩ : ∃ y, cc = [y] := by
    match cc, hlc with
    | [y], _ => exact ⟨y, rfl⟩
  have her := he.rdc
  have hez := he.fz
  have hcr := hc.rdc
  have hcz := hc.fz
  refine Sm.out ?_
  repeat (first | refine qS ?_ | refine qB ?_ | refine qT rfl ?_ | refine qF rfl ?_ | ((first | refine qR rfl ?_ | refine qK ?_ | refine qE ?_ | refine qW ?_ | refine qM ?_); try simp -dsimp (maxSteps := 2000000) (disch := first | omega | (simp only [qZ] <;> omega) | fail) only [push_cast, ↓qP, ↓reduceIte, Nat.reduceEqDiff, Nat.reduceAdd, Nat.reduceMul, Nat.reduceSub, Nat.reduceLeDiff, Int.reduceToNat, reduceCtorEq, f5, f0, f1, her, hez, hcr, hcz]) | (refine qA ?_ ?_; (first | omega | (simp only [qL]; omega) | (simp only [qD] at *; omega))))
end Go.Proofs.Ytddichibegppjaa

/- The program's Parse. -/
namespace Go.Proofs.Ytddichibegppjaa
open Go Go.VC Go.RowKit

abbrev capE (p : Nat) : Array Value := #[.pointer (some ⟨p, 0, none⟩), .pointer (some ⟨p + 1, 0, none⟩)]
abbrev defE (p : Nat) : Deferred := { target := .fn (.func 80) (capE p), args := #[] }
theorem inv80 (p : Nat) (w : World) : (invoke (.fn (.func 80) (capE p)) #[]).run Try.prog w = .ok (.enter 80 (capE p)) w := by
  simp [invoke, go_sem]
theorem make80 {F : Fr} {p : Nat} (w : World) (o : Oper) (ho : o.op = .makeFunc (.func 80) #[] #[.tmp 2, .tmp 3]) (f2 : F 2 = .pointer (some ⟨p, 0, none⟩)) (f3 : F 3 = .pointer (some ⟨p + 1, 0, none⟩)) : (execOp (ev F) o).run Try.prog w = .ok (.value (.func (.func 80) #[] (capE p))) w := by
  have hmf : ∀ (fn : Fn) (first cap : Array Value) (w : World), (Instr.makeFunc fn first cap).run Try.prog w = .ok (.func fn first cap) w := fun _ _ _ _ => rfl
  simp [execOp, ho, ev, f2, f3, hmf, Result.andThen]
theorem defer80 {F : Fr} {p : Nat} (w : World) (o : Oper) (ho : o.op = .defer { callee := .value (.tmp 5), args := #[], argTypes := #[] }) (f5 : F 5 = .func (.func 80) #[] (capE p)) : (execOp (ev F) o).run Try.prog w = .ok (.defer (defE p)) w := by
  simp [execOp, ho, resolve, ev, f5, Deferred.ofValue, Result.andThen]

/-- What Parse's body leaves. -/
def QE (l : List UInt8) (p : Nat) (w : World) (e : Exit) (F' : Fr) (w' : World) : Prop :=
  F' 2 = .pointer (some ⟨p, 0, none⟩) ∧ F' 3 = .pointer (some ⟨p + 1, 0, none⟩) ∧ ∃ ce cc, Blk w' p 33 ce ∧ Blk w' (p + 1) 3 cc ∧ ce.length = 5 ∧ cc.length = 1 ∧ Kp (fun _ => False) w w' ∧
    ((e = .ret ∧ cc = [.int .i64 0] ∧ IsRe w' (fun b => w.heap.size ≤ b ∧ b < w'.heap.size) (parse3 l).1 ce ∧ (parse3 l).2 = 0) ∨ (∃ k : Int, e = .panic (flt k) ∧ 1 ≤ k ∧ (parse3 l).2 ≠ 0))
theorem ere_any (l : List UInt8) (hl : l.length ≤ 100000) (w : World) (hM : MaxL w) : Calls Try.prog 63 #[.string (B l)] w fun e w' => ∃ (cs : List Value) (f : Int), e = .returned (.tuple #[.agg cs.toArray, .int .i64 f]) ∧
    IsRe w' (fun b => w.heap.size ≤ b ∧ b < w'.heap.size) (parse3 l).1 cs ∧ Kp (fun _ => False) w w' ∧ (f = 0 ↔ (parse3 l).2 = 0) := by
  have h1w : 1 < w.heap.size := rdc_lt (b := 1) (i := 0) hM.choose_spec
  refine enterD (n := 22) (args := [.string (B l)]) Try.func63 rfl rfl (by simp) ?_
  intro a hr
  obtain ⟨p, hp⟩ : ∃ p, p = w.heap.size := ⟨_, rfl⟩
  refine wp_then (M := fun F' w' => F' 0 = .string (B l) ∧ F' 2 = .pointer (some ⟨p, 0, none⟩) ∧ F' 3 = .pointer (some ⟨p + 1, 0, none⟩) ∧ w' = (w.alloc (.cells zRe.toArray 33)).alloc (.cells #[.int .i64 0] 3)) ?_ hr ?_
  · rw [hp]
    repeat (first | refine qS ?_ | refine qB ?_ | refine qT rfl ?_ | refine qF rfl ?_ | ((first | refine qR rfl ?_ | refine qK ?_ | refine qE ?_ | refine qW ?_ | refine qM ?_); try simp -dsimp (maxSteps := 2000000) (disch := first | omega | (simp only [qZ] <;> omega) | fail) only [push_cast, ↓qP, ↓reduceIte, Nat.reduceEqDiff, Nat.reduceAdd, Nat.reduceMul, Nat.reduceSub, Nat.reduceLeDiff, Int.reduceToNat, reduceCtorEq]) | (refine qA ?_ ?_; (first | omega | (simp only [qL]; omega) | (simp only [qD] at *; omega))))
  clear hr
  rintro F1 a1 w1 ⟨f0, f2, f3, hw1⟩ hr1
  refine wp_defer (t := 5) (v := .func (.func 80) #[] (capE p)) (d := defE p) hr1 rfl rfl rfl (by decide) rfl (make80 _ _ rfl f2 f3) (defer80 _ _ rfl rfl) ?_
  intro a2 hr2
  have hbe : Blk w1 p 33 zRe := by rw [hw1, hp]; exact (Blk.new w 33 zRe).alloc _
  have hbc : Blk w1 (p + 1) 3 [.int .i64 0] := by
    have := Blk.new (w.alloc (.cells zRe.toArray 33)) 3 [.int .i64 0]
    rw [hw1, hp]; simpa using this
  have k1 : Kp (fun _ => False) w w1 := by rw [hw1]; exact ((Kp.refl _ w).alloc _).alloc _
  have hsz1 : w1.heap.size = p + 2 := by rw [hw1, hp]; simp
  refine Go.wp_mono (wp_of (Q := QE l p w) ?_ hr2) ?_
  case refine_2 =>
    rintro e a3 w3 ⟨F3, hr3, g2, g3, ce, cc, be, bc, le, lc, k3, hcase⟩
    rcases hcase with ⟨rfl, rfl, hre, hz⟩ | ⟨k, rfl, hk1, hz⟩
    · show Leaves Try.prog Try.f63 a3.tmps _ a3.defers .returning w3
      rw [hr3.defs]
      have hrd := be.rdn
      rw [le] at hrd
      refine leaves_one (rs := [.cell 2 33, .cell 3 3]) hr3 (by simp) (inv80 p w3) (catch_idle p (p + 1) w3) rfl rfl (v := .tuple #[.agg ce.toArray, .int .i64 0]) ?_ ?_
      · have h1 : resV Try.prog w3 F3 (.cell 2 33) = some (.agg ce.toArray) := by simp only [resV, g2, tk_33, hrd, Option.map_some]
        have h2 : resV Try.prog w3 F3 (.cell 3 3) = some (.int .i64 0) := by simp only [resV, g3, tk_3]; rw [bc.rdc]; rfl
        simp [resVs, List.mapM_cons, h1, h2]
      · exact ⟨ce, 0, rfl, hre, k3, by simp [hz]⟩
    · show Leaves Try.prog Try.f63 a3.tmps _ a3.defers (.panicking (flt k)) w3
      rw [hr3.defs]
      have be2 : Blk ((w3.setCells p 0 zRe).setCell ⟨p + 1, 0, none⟩ (.int .i64 k)) p 33 zRe := (be.setAll (vs := zRe) (by rw [le]; rfl)).far (p := ⟨p + 1, 0, none⟩) (by show p ≠ p + 1; omega) _
      have bc2 : Blk ((w3.setCells p 0 zRe).setCell ⟨p + 1, 0, none⟩ (.int .i64 k)) (p + 1) 3 [.int .i64 k] := by
        have := (Blk.farCells (b := p) (by omega) zRe 0 w3 bc).set 0 (.int .i64 k)
        match cc, lc with
        | [y], _ => exact this
      have hrd := be2.rdn
      refine leaves_one (rs := [.cell 2 33, .cell 3 3]) hr3 (by simp) (inv80 p w3) (catch_fault p (p + 1) k w3 ce cc be bc le lc (by omega)) rfl rfl (v := .tuple #[.agg zRe.toArray, .int .i64 k]) ?_ ?_
      · have h1 : resV Try.prog ((w3.setCells p 0 zRe).setCell ⟨p + 1, 0, none⟩ (.int .i64 k)) F3 (.cell 2 33) = some (.agg zRe.toArray) := by
          simp only [resV, g2, tk_33]
          rw [show rdn ((w3.setCells p 0 zRe).setCell ⟨p + 1, 0, none⟩ (.int .i64 k)) p 0 5 = some zRe from hrd]; rfl
        have h2 : resV Try.prog ((w3.setCells p 0 zRe).setCell ⟨p + 1, 0, none⟩ (.int .i64 k)) F3 (.cell 3 3) = some (.int .i64 k) := by simp only [resV, g3, tk_3]; rw [bc2.rdc]; rfl
        simp [resVs, List.mapM_cons, h1, h2]
      · refine ⟨zRe, k, rfl, by rw [parse3_zero l hz]; exact zRe_is _ _, ?_, ?_⟩
        · exact (Kp.setCells k3 (fun h => by omega) zRe 0).setCell (fun h => by have h : p + 1 < w.heap.size := h; omega) _
        · constructor
          · intro h; omega
          · intro h; exact absurd h hz
  case refine_1 =>
    obtain ⟨⟨t, s1⟩, hb⟩ := start_some l
    have hpz : parse3 l = if s1.f ≠ 0 then (Re.zero, s1.f) else if s1.i < l.length then (Re.zero, 1) else if size3 t > 2000 then (Re.zero, 5) else (t, 0) := by unfold parse3; rw [hb]
    have hwf : (p : Nat) ≤ w1.heap.size ∧ p + 1 < w1.heap.size := by omega
    clear hw1 hr1 hr2
    repeat (first | refine qS ?_ | refine qB ?_ | refine qT rfl ?_ | refine qF rfl ?_ | ((first | refine qR rfl ?_ | refine qK ?_ | refine qE ?_ | refine qW ?_ | refine qM ?_); try simp -dsimp (maxSteps := 2000000) (disch := first | omega | (simp only [qZ] <;> omega) | fail) only [push_cast, ↓qP, ↓reduceIte, Nat.reduceEqDiff, Nat.reduceAdd, Nat.reduceMul, Nat.reduceSub, Nat.reduceLeDiff, Int.reduceToNat, reduceCtorEq, f0]) | (refine qA ?_ ?_; (first | omega | (simp only [qL]; omega) | (simp only [qD] at *; omega))))
    obtain ⟨q, hq⟩ : ∃ q, q = w1.heap.size := ⟨_, rfl⟩
    have hrd : Rd (w1.alloc (.cells #[.string (B l), .int .i64 0] 133)) q l 0 0 := by
      have := Blk.new w1 133 [.string (B l), .int .i64 0]
      rw [← hq] at this
      exact this
    have k2 : Kp (fun _ => False) w (w1.alloc (.cells #[.string (B l), .int .i64 0] 133)) := k1.alloc _
    rw [← hq]
    refine CallV.gen (A := fun W => Rd W q l 0 0 ∧ Kp (fun _ => False) w W ∧ Blk W p 33 zRe ∧ Blk W (p + 1) 3 [.int .i64 0]) ⟨hrd, k2, hbe.alloc _, hbc.alloc _⟩ ?_
    clear hrd k2 hbe hbc k1
    rintro W ⟨hrd, k2, hbe, hbc⟩
    refine CallV.of isCall_81 ((ere_all (a := q) (by omega : l.length ≤ 1000000) (by omega) (4 * l.length + 3)).2.2 ⟨0, 0, 0⟩ W hrd (St3_start l) rfl (hM.kp k2 id) (start_some l)) ?_
    rw [hb]
    have hpW : p + 1 < W.heap.size := hbc.lt
    have hqW : q < W.heap.size := hrd.lt
    rintro e w5 (⟨t', s1', cs, he, hf1, rfl, hre, h5, k5⟩ | ⟨t', s1', he, hf1, x, rfl, x1, x2, k5⟩)
    case inr =>
      injection he with he
      injection he with he1 he2
      subst he1; subst he2
      rw [if_pos hf1] at hpz
      refine Sm.out ?_
      repeat (first | refine qS ?_ | refine qB ?_ | refine qT rfl ?_ | refine qF rfl ?_ | ((first | refine qR rfl ?_ | refine qK ?_ | refine qE ?_ | refine qW ?_ | refine qM ?_); try simp -dsimp (maxSteps := 2000000) (disch := first | omega | (simp only [qZ] <;> omega) | fail) only [push_cast, ↓qP, ↓reduceIte, Nat.reduceEqDiff, Nat.reduceAdd, Nat.reduceMul, Nat.reduceSub, Nat.reduceLeDiff, Int.reduceToNat, reduceCtorEq, f2, f3]) | (refine qA ?_ ?_; (first | omega | (simp only [qL]; omega) | (simp only [qD] at *; omega))))
      exact ⟨by simp [upd, f2], by simp [upd, f3], zRe, _, k5.Blk hbe (by omega), k5.Blk hbc (by omega), rfl, rfl, k2.trans' k5 (fun i hi e => by omega), .inr ⟨x, rfl, x1, by rw [hpz]; exact hf1⟩⟩
    injection he with he
    injection he with he1 he2
    subst he1; subst he2
    rw [if_neg (by rw [hf1]; simp)] at hpz
    have k6 : Kp (fun _ => False) w w5 := k2.trans' k5 (fun i hi e => by omega)
    have hbe5 := k5.Blk hbe (by omega)
    have hbc5 := k5.Blk hbc (by omega)
    obtain ⟨o, se, A1, c1, c2, lo1, hi1, rfl⟩ := hre.form
    have hltp := hbe5.lt
    refine Sm.out ?_
    repeat (first | ((fail_if_success (first | refine qY (n := 4) ?_ | refine qV (n := 4) ?_)); refine qS ?_) | refine qB ?_ | refine qT rfl ?_ | refine qF rfl ?_ | ((first | refine qR rfl ?_ | refine qK ?_ | refine qE ?_ | refine qW ?_ | refine qM ?_); try simp -dsimp (maxSteps := 2000000) (disch := first | omega | (simp only [qZ] <;> omega) | fail) only [push_cast, ↓qP, ↓reduceIte, Nat.reduceEqDiff, Nat.reduceAdd, Nat.reduceMul, Nat.reduceSub, Nat.reduceLeDiff, Int.reduceToNat, reduceCtorEq, f2, hbe5.rdc, hbe5.fz]) | (refine qA ?_ ?_; (first | omega | (simp only [qL]; omega) | (simp only [qD] at *; omega))))
    have hkp : Kp (· = p) w5 (w5.setCells p 0 [.string (B o), .string (B se), .slice A1 c1 c2, .int .i64 lo1, .int .i64 hi1]) := (Kp.refl (· = p) w5).setCells (fun _ => rfl) [.string (B o), .string (B se), .slice A1 c1 c2, .int .i64 lo1, .int .i64 hi1] 0
    have h6 : Rd (w5.setCells p 0 [.string (B o), .string (B se), .slice A1 c1 c2, .int .i64 lo1, .int .i64 hi1]) q l s1.i s1.d := hkp.Blk h5.blk (by omega)
    have be6 : Blk (w5.setCells p 0 [.string (B o), .string (B se), .slice A1 c1 c2, .int .i64 lo1, .int .i64 hi1]) p 33 [.string (B o), .string (B se), .slice A1 c1 c2, .int .i64 lo1, .int .i64 hi1] := Blk.setAll (cs := zRe) hbe5 rfl
    have bc6 : Blk (w5.setCells p 0 [.string (B o), .string (B se), .slice A1 c1 c2, .int .i64 lo1, .int .i64 hi1]) (p + 1) 3 [.int .i64 0] := hkp.Blk hbc5 (by omega)
    have re6 : IsRe (w5.setCells p 0 [.string (B o), .string (B se), .slice A1 c1 c2, .int .i64 lo1, .int .i64 hi1]) (fun b => p + 1 < b ∧ b < (w5.setCells p 0 [.string (B o), .string (B se), .slice A1 c1 c2, .int .i64 lo1, .int .i64 hi1]).heap.size) t [.string (B o), .string (B se), .slice A1 c1 c2, .int .i64 lo1, .int .i64 hi1] := hre.Kp hkp (fun b hb e => by have := hb.1; omega) (fun b hb => ⟨by have := hb.1; omega, Nat.lt_of_lt_of_le hb.2 hkp.size⟩)
    have k7 : Kp (fun _ => False) w (w5.setCells p 0 [.string (B o), .string (B se), .slice A1 c1 c2, .int .i64 lo1, .int .i64 hi1]) := k6.trans' hkp (fun i hi e => by omega)
    refine Wp.gen (A := fun W => Rd W q l s1.i s1.d ∧ Blk W p 33 [.string (B o), .string (B se), .slice A1 c1 c2, .int .i64 lo1, .int .i64 hi1] ∧ Blk W (p + 1) 3 [.int .i64 0] ∧ IsRe W (fun b => p + 1 < b ∧ b < W.heap.size) t [.string (B o), .string (B se), .slice A1 c1 c2, .int .i64 lo1, .int .i64 hi1] ∧ Kp (fun _ => False) w W) ⟨h6, be6, bc6, re6, k7⟩ ?_
    clear h6 be6 bc6 re6 k7 k6 hbe5 hbc5 hre h5 hkp k5 hltp hbe hbc hrd k2
    rintro W6 ⟨h6, be6, bc6, re6, k7⟩
    have hbq := h6.blk.rdc
    have he := empty_iff (l := l) (i := s1.i)
    have her := be6.rdc
    have hez := be6.fz
    have hcr := bc6.rdc
    have hcz := bc6.fz
    have hltp := be6.lt
    have hltc := bc6.lt
    rcases Nat.lt_or_ge s1.i l.length with hi2 | hi2
    · rw [decide_eq_false (by omega)] at he
      have hen : (!(l.drop s1.i == [])) = true := by rw [he]; rfl
      rw [if_pos hi2] at hpz
      repeat (first | refine qS ?_ | refine qB ?_ | refine qT rfl ?_ | refine qF rfl ?_ | ((first | refine qR rfl ?_ | refine qK ?_ | refine qE ?_ | refine qW ?_ | refine qM ?_); try simp -dsimp (maxSteps := 2000000) (disch := first | omega | (simp only [qZ] <;> omega) | fail) only [push_cast, ↓qP, ↓reduceIte, Nat.reduceEqDiff, Nat.reduceAdd, Nat.reduceMul, Nat.reduceSub, Nat.reduceLeDiff, Int.reduceToNat, reduceCtorEq, hbq, he]) | (refine qA ?_ ?_; (first | omega | (simp only [qL]; omega) | (simp only [qD] at *; omega))))
      exact ⟨by simp [upd, f2], by simp [upd, f3], _, _, be6, bc6, rfl, rfl, k7, .inr ⟨1, rfl, by decide, by rw [hpz]; simp⟩⟩
    rw [decide_eq_true hi2] at he
    rw [if_neg (by omega)] at hpz
    obtain ⟨m1, m2⟩ := (reads_ok l (4 * l.length + 3)).2.2.2.2 _ _ _ (St3_start l) hb
    have hg := m2 hf1
    have hwt := (reads_wt l (4 * l.length + 3)).2.2.2.2 _ _ _ (St3_start l) hb hf1
    have hi3 := (m1.2.2 hf1).2.2
    have h00 : (⟨0, 0, 0⟩ : S3).i = 0 := rfl
    rw [h00] at hwt
    repeat (first | refine qS ?_ | refine qB ?_ | refine qT rfl ?_ | refine qF rfl ?_ | ((first | refine qR rfl ?_ | refine qK ?_ | refine qE ?_ | refine qW ?_ | refine qM ?_); try simp -dsimp (maxSteps := 2000000) (disch := first | omega | (simp only [qZ] <;> omega) | fail) only [push_cast, ↓qP, ↓reduceIte, Nat.reduceEqDiff, Nat.reduceAdd, Nat.reduceMul, Nat.reduceSub, Nat.reduceLeDiff, Int.reduceToNat, reduceCtorEq, hbq, he, f2, her]) | (refine qA ?_ ?_; (first | omega | (simp only [qL]; omega) | (simp only [qD] at *; omega))))
    refine CallV.of isCall_82 (sizeE_any t hg (by omega) W6 _ re6) ?_
    rintro _ w8 ⟨rfl, k8⟩
    have be8 := k8.Blk be6 id
    have bc8 := k8.Blk bc6 id
    have her := be8.rdc
    have hez := be8.fz
    have hcr := bc8.rdc
    have hcz := bc8.fz
    have hltp := be8.lt
    have hltc := bc8.lt
    by_cases h2000 : size3 t > 2000
    · rw [if_pos h2000] at hpz
      have cz : decide (size3 t > 2000) = true := decide_eq_true h2000
      refine Sm.out ?_
      repeat (first | refine qS ?_ | refine qB ?_ | refine qT rfl ?_ | refine qF rfl ?_ | ((first | refine qR rfl ?_ | refine qK ?_ | refine qE ?_ | refine qW ?_ | refine qM ?_); try simp -dsimp (maxSteps := 2000000) (disch := first | omega | (simp only [qZ] <;> omega) | fail) only [push_cast, ↓qP, ↓reduceIte, Nat.reduceEqDiff, Nat.reduceAdd, Nat.reduceMul, Nat.reduceSub, Nat.reduceLeDiff, Int.reduceToNat, reduceCtorEq, cz]) | (refine qA ?_ ?_; (first | omega | (simp only [qL]; omega) | (simp only [qD] at *; omega))))
      exact ⟨by simp [upd, f2], by simp [upd, f3], _, _, be8, bc8, rfl, rfl, k7.trans k8, .inr ⟨5, rfl, by decide, by rw [hpz]; simp⟩⟩
    · rw [if_neg h2000] at hpz
      have cz : decide (size3 t > 2000) = false := decide_eq_false h2000
      refine Sm.out ?_
      repeat (first | refine qS ?_ | refine qB ?_ | refine qT rfl ?_ | refine qF rfl ?_ | ((first | refine qR rfl ?_ | refine qK ?_ | refine qE ?_ | refine qW ?_ | refine qM ?_); try simp -dsimp (maxSteps := 2000000) (disch := first | omega | (simp only [qZ] <;> omega) | fail) only [push_cast, ↓qP, ↓reduceIte, Nat.reduceEqDiff, Nat.reduceAdd, Nat.reduceMul, Nat.reduceSub, Nat.reduceLeDiff, Int.reduceToNat, reduceCtorEq, cz, f2, f3, her, hez, hcr, hcz]) | (refine qA ?_ ?_; (first | omega | (simp only [qL]; omega) | (simp only [qD] at *; omega))))
      have hkp : Kp (· = p) w8 (w8.setCells p 0 [.string (B o), .string (B se), .slice A1 c1 c2, .int .i64 lo1, .int .i64 hi1]) := (Kp.refl (· = p) w8).setCells (fun _ => rfl) [.string (B o), .string (B se), .slice A1 c1 c2, .int .i64 lo1, .int .i64 hi1] 0
      have hkc : Kp (· = p + 1) (w8.setCells p 0 [.string (B o), .string (B se), .slice A1 c1 c2, .int .i64 lo1, .int .i64 hi1]) ((w8.setCells p 0 [.string (B o), .string (B se), .slice A1 c1 c2, .int .i64 lo1, .int .i64 hi1]).setCell ⟨p + 1, 0, none⟩ (.int .i64 0)) := (Kp.refl (· = p + 1) _).setCell (fun _ => rfl) _
      have be9 : Blk ((w8.setCells p 0 [.string (B o), .string (B se), .slice A1 c1 c2, .int .i64 lo1, .int .i64 hi1]).setCell ⟨p + 1, 0, none⟩ (.int .i64 0)) p 33 [.string (B o), .string (B se), .slice A1 c1 c2, .int .i64 lo1, .int .i64 hi1] := hkc.Blk (Blk.setAll be8 rfl) (by omega)
      have bc9 : Blk ((w8.setCells p 0 [.string (B o), .string (B se), .slice A1 c1 c2, .int .i64 lo1, .int .i64 hi1]).setCell ⟨p + 1, 0, none⟩ (.int .i64 0)) (p + 1) 3 [.int .i64 0] := (hkp.Blk bc8 (by omega)).set 0 (.int .i64 0)
      have k9 : Kp (fun _ => False) w ((w8.setCells p 0 [.string (B o), .string (B se), .slice A1 c1 c2, .int .i64 lo1, .int .i64 hi1]).setCell ⟨p + 1, 0, none⟩ (.int .i64 0)) := ((k7.trans k8).trans' hkp (fun i hi e => by omega)).trans' hkc (fun i hi e => by omega)
      have re9 := ((re6.Kp (D' := fun b => p + 1 < b ∧ b < w8.heap.size) k8 (fun _ _ => id) (fun b hb => ⟨hb.1, Nat.lt_of_lt_of_le hb.2 k8.size⟩)).Kp (D' := fun b => p + 1 < b ∧ b < w8.heap.size) hkp (fun b hb e => by have := hb.1; omega) (fun b hb => hb)).Kp
        (D' := fun b => w.heap.size ≤ b ∧ b < ((w8.setCells p 0 [.string (B o), .string (B se), .slice A1 c1 c2, .int .i64 lo1, .int .i64 hi1]).setCell ⟨p + 1, 0, none⟩ (.int .i64 0)).heap.size) hkc (fun b hb e => by have := hb.1; omega) (fun b hb => ⟨by have := hb.1; omega, Nat.lt_of_lt_of_le hb.2 (Nat.le_trans hkp.size hkc.size)⟩)
      exact ⟨by simp [upd, f2], by simp [upd, f3], _, _, be9, bc9, rfl, rfl, k9, .inl ⟨rfl, rfl, by rw [hpz]; exact re9, by rw [hpz]⟩⟩
end Go.Proofs.Ytddichibegppjaa

/- The reference's Parse. -/
namespace Go.Proofs.Ytddichibegppjaa
open Go Go.VC

theorem reads3 (l : List UInt8) (hl : l.length ≤ 1000000) (a : Nat) : ∀ k, CA l a k ∧ CP l a k ∧ CB l a k := by
  intro k
  induction k using Nat.strongRecOn with
  | _ k ih => exact ⟨atom3_any k hl fun j hj => (ih j hj).2.2, pieces3_any k hl fun j hj => (ih j hj).1, branches3_any k hl fun j hj => (ih j hj).2.1⟩

theorem post_cell_tmp {w : World} {a t b i n u : Nat} {vs : List Value} {F : Fr} {R : Ending → World → Prop} (hF : F a = .pointer (some ⟨b, i, none⟩)) (ht : tk Try.prog t = n + 2) (hr : VC.rdn w b i n = some vs) (h : R (.returned (.tuple #[.agg vs.toArray, F u])) w) : post Try.prog [.cell a t, .tmp u] R .mk .ret F w := by
  have : resVs Try.prog w F [.cell a t, .tmp u] = some (.tuple #[.agg vs.toArray, F u]) := by
    simp only [resVs, List.mapM_cons, List.mapM_nil, resV, hF, ht, hr, Option.map_some]
    rfl
  unfold post
  show (match resVs Try.prog w F [.cell a t, .tmp u] with | some v => Ret R v w | none => False)
  rw [this]
  exact Ret.mk h

/-- Where Parse stands. -/
structure Pr (w : World) (a q : Nat) (l : List UInt8) (s : S3) (e : Re) (cs : List Value) (W : World) : Prop where
  at_ : At3 W a l s
  rb : Blk W w.heap.size 33 zRe
  qb : Blk W q 33 cs
  re : IsRe W (fun b => w.heap.size < b ∧ b < W.heap.size ∧ b ≠ q ∧ b ≠ a) e cs
  kp : Kp (fun _ => False) w W
  ha : w.heap.size < a
  hq : a < q
section
variable {w W W2 : World} {a q : Nat} {l : List UInt8} {s s' : S3} {e : Re} {cs : List Value}
theorem Pr.keep (h : Pr w a q l s e cs W) (h2 : At3 W2 a l s') (hk : Kp (· = a) W W2) : Pr w a q l s' e cs W2 := by
  have h1 := h.ha
  have h3 := h.hq
  exact ⟨h2, hk.Blk h.rb (by omega), hk.Blk h.qb (by omega), h.re.Kp hk (fun b hb e => hb.2.2.2 e) (fun b hb => ⟨hb.1, Nat.lt_of_lt_of_le hb.2.1 hk.size, hb.2.2⟩), h.kp.trans' hk (fun i hi e => by omega), h1, h3⟩
theorem Pr.keep0 (h : Pr w a q l s e cs W) (hk : Kp (fun _ => False) W W2) : Pr w a q l s e cs W2 := h.keep (hk.Blk h.at_ id) (hk.mono fun _ _ h => h.elim)
theorem Pr.drew (h : Pr w a q l s e cs W) : Pr w a q l s e cs W.drew := h.keep0 (Kp.refl _ W).drew

/-- What Parse brings. -/
abbrev OutP (w : World) (l : List UInt8) (e : Ending) (W : World) : Prop :=
  ∃ cs, e = .returned (.tuple #[.agg cs.toArray, .int .i64 (parse3 l).2]) ∧ IsRe W (fun b => w.heap.size ≤ b ∧ b < W.heap.size) (parse3 l).1 cs ∧ Kp (fun _ => False) w W

theorem parse3_any (w : World) (l : List UInt8) (hl : l.length ≤ 1000000) : Calls Try.prog 20 #[.string (B l)] w (OutP w l) := by
  obtain ⟨⟨e, s0⟩, hr⟩ := start_some l
  have hp : parse3 l = if s0.f ≠ 0 then (Re.zero, s0.f) else if s0.i < l.length then (Re.zero, 1) else if size3 e > 2000 then (Re.zero, 5) else (e, 0) := by
    unfold parse3; rw [hr]
  have hok := (reads_ok l _).2.2.2.2 _ _ _ (St3_start l) hr
  have hwt := (reads_wt l _).2.2.2.2 _ _ _ (St3_start l) hr
  have hsi : s0.i ≤ l.length + 101 := by have := hok.1.2.1; simp at this; omega
  replace hp : Hide _ := ⟨hp⟩
  replace hok : Hide _ := ⟨hok⟩
  replace hwt : Hide _ := ⟨hwt⟩
  refine enter (n := 53) (args := [.string (B l)]) Try.func20 rfl rfl rfl (by simp) ?_
  repeat (first | refine qS ?_ | refine qB ?_ | refine qT rfl ?_ | refine qF rfl ?_ | ((first | refine qR rfl ?_ | refine qK ?_ | refine qE ?_ | refine qW ?_ | refine qM ?_); try simp -dsimp (maxSteps := 2000000) (disch := first | omega | (simp only [qZ] <;> omega) | fail) only [push_cast, ↓qP, ↓reduceIte, Nat.reduceEqDiff, Nat.reduceAdd, Nat.reduceMul, Nat.reduceSub, Nat.reduceLeDiff, Int.reduceToNat, reduceCtorEq]) | (refine qA ?_ ?_; (first | omega | (simp only [qL]; omega) | (simp only [qD] at *; omega))))
  have hA : At3 ((w.alloc (.cells zRe.toArray 33)).alloc (.cells #[.string (B l), .int .i64 0, .int .i64 0, .int .i64 0] 82)) (w.heap.size + 1) l ⟨0, 0, 0⟩ := by
    have := Blk.new (w.alloc (.cells zRe.toArray 33)) 82 [.string (B l), .int .i64 0, .int .i64 0, .int .i64 0]
    rw [World.size_alloc] at this
    exact this
  refine CallV.gen (A := fun W => At3 W (w.heap.size + 1) l ⟨0, 0, 0⟩ ∧ Blk W w.heap.size 33 zRe ∧ Kp (fun _ => False) w W) ⟨hA, (Blk.new _ _ _).alloc _, ((Kp.refl _ w).alloc _).alloc _⟩ ?_
  clear hA
  rintro w1 ⟨hA, hB, k1⟩
  refine CallV.of isCall_49 ((reads3 l hl (w.heap.size + 1) (4 * l.length + 3)).2.2 _ w1 hA (St3_start l) ⟨_, hr⟩) ?_
  rintro _ w2 ⟨t', s1', cs, he, rfl, hre, hA2, k2⟩
  rw [hr] at he
  injection he with he
  injection he with he1 he2
  subst he1; subst he2
  clear hr
  obtain ⟨o, se, A1, c1, c2, lo1, hi1', rfl⟩ := hre.form
  have hB2 := k2.Blk hB (by omega)
  have hA1l := hA.lt
  have hB1l := hB.lt
  have hA2l := hA2.lt
  have k3 : Kp (fun _ => False) w w2 := k1.trans' k2 (fun i hi e => by omega)
  refine Sm.out ?_
  repeat (first | ((fail_if_success (first | refine qY (n := 3) ?_ | refine qV (n := 3) ?_)); refine qS ?_) | refine qB ?_ | refine qT rfl ?_ | refine qF rfl ?_ | ((first | refine qR rfl ?_ | refine qK ?_ | refine qE ?_ | refine qW ?_ | refine qM ?_); try simp -dsimp (maxSteps := 2000000) (disch := first | omega | (simp only [qZ] <;> omega) | fail) only [push_cast, ↓qP, ↓reduceIte, Nat.reduceEqDiff, Nat.reduceAdd, Nat.reduceMul, Nat.reduceSub, Nat.reduceLeDiff, Int.reduceToNat, reduceCtorEq]) | (refine qA ?_ ?_; (first | omega | (simp only [qL]; omega) | (simp only [qD] at *; omega))))
  obtain ⟨q, hq⟩ : ∃ q, q = w2.heap.size := ⟨_, rfl⟩
  rw [← hq]
  obtain ⟨a, ha⟩ : ∃ a, a = w.heap.size + 1 := ⟨_, rfl⟩
  rw [← ha] at hA hA2 k2 hA1l hA2l ⊢
  refine Wp.gen (w := (w2.alloc (.cells zRe.toArray 33)).setCells q 0 [.string (B o), .string (B se), .slice A1 c1 c2, .int .i64 lo1, .int .i64 hi1']) (A := Pr w a q l s0 e [.string (B o), .string (B se), .slice A1 c1 c2, .int .i64 lo1, .int .i64 hi1']) ?_ ?_
  · have hk : Kp (· = q) w2 ((w2.alloc (.cells zRe.toArray 33)).setCells q 0 [.string (B o), .string (B se), .slice A1 c1 c2, .int .i64 lo1, .int .i64 hi1']) := ((Kp.refl (· = q) w2).alloc _).setCells (fun _ => rfl) [.string (B o), .string (B se), .slice A1 c1 c2, .int .i64 lo1, .int .i64 hi1'] 0
    have hk1 := k1.size
    have hk2 := k2.size
    exact ⟨Blk.farCells (by omega) _ _ _ (hA2.alloc _), Blk.farCells (by omega) _ _ _ (hB2.alloc _), Blk.setAll (cs := zRe) (by rw [hq]; exact Blk.new w2 33 zRe) rfl,
      hre.Kp hk (fun b hb e => by have := hb.2; omega) (fun b hb => ⟨by have := hb.1; omega, Nat.lt_of_lt_of_le hb.2 hk.size, by have := hb.2; omega, by have := hb.1; omega⟩), k3.trans' hk (fun i hi e => by omega), by omega, by omega⟩
  clear k3 k2 k1 hB2 hA1l hB1l hA2l hA hB hA2 hre hq
  intro w3 h3
  have hltr := h3.rb.lt
  obtain ⟨s1, hs1⟩ : ∃ s1 : S3, s1 = if s0.f == 0 && decide ((s0.i : Int) < (l.length : Int)) then s0.fail 1 else s0 := ⟨_, rfl⟩
  refine Wp.cut (fun F W => F 2 = .pointer (some ⟨w.heap.size, 0, none⟩) ∧ F 3 = .int .i64 0 ∧ F 4 = .pointer (some ⟨a, 0, none⟩) ∧ F 5 = .pointer (some ⟨q, 0, none⟩) ∧ Pr w a q l s1 e [.string (B o), .string (B se), .slice A1 c1 c2, .int .i64 lo1, .int .i64 hi1'] W) ?_ ?_
  · have hlta := h3.at_.lt
    rcases Bool.eq_false_or_eq_true (s0.f == 0) with g1 | g1
    · rcases Bool.eq_false_or_eq_true (decide ((s0.i : Int) < (l.length : Int))) with g2 | g2
      · rw [g1, g2] at hs1
        simp only [Bool.and_self, if_true] at hs1
        refine Wp.seq (Wp.draw [0, 1, 3, 7, 15, 31, 63, 127, 255, 511, 63, 1087, 3135, 7231, 15423, 32767, 65535] [] (.op 0 false false [] <| .op 1 false false [] <| .op 2 false false [] <| .op 3 false false [] <| .op 4 false false [] <| .op 5 false false [] <| .op 6 false false [] <| .op 7 false false [] <| .op 8 false false [] <| .op 9 false false [] <| .op 10 false false [] <| .op 11 false false [] <| .op 12 false false [] <| .op 13 false false [] <| .op 14 false false [] <| .op 15 false false [] <| .op 16 false false [] <| .nil) mixed (by kernel_rfl) ?_)
        simp -dsimp (maxSteps := 2000000) (disch := first | omega | (simp only [qZ] <;> omega) | fail) only [push_cast, ↓qP, ↓reduceIte, Nat.reduceEqDiff, Nat.reduceAdd, Nat.reduceMul, Nat.reduceSub, Nat.reduceLeDiff, Int.reduceToNat, reduceCtorEq, h3.at_.rdc, g1, g2]
        refine Sm.out ?_
        repeat (first | refine qS ?_ | refine qB ?_ | refine qT rfl ?_ | refine qF rfl ?_ | ((first | refine qR rfl ?_ | refine qK ?_ | refine qE ?_ | refine qW ?_ | refine qM ?_); try simp -dsimp (maxSteps := 2000000) (disch := first | omega | (simp only [qZ] <;> omega) | fail) only [push_cast, ↓qP, ↓reduceIte, Nat.reduceEqDiff, Nat.reduceAdd, Nat.reduceMul, Nat.reduceSub, Nat.reduceLeDiff, Int.reduceToNat, reduceCtorEq, g1, g2]) | (refine qA ?_ ?_; (first | omega | (simp only [qL]; omega) | (simp only [qD] at *; omega))))
        refine CallV.of isCall_50 (fail3 h3.at_.drew 1) ?_
        rintro _ w7 ⟨rfl, h7, k7⟩
        refine Sm.out ?_
        repeat (first | refine qS ?_ | refine qB ?_ | refine qT rfl ?_ | refine qF rfl ?_ | ((first | refine qR rfl ?_ | refine qK ?_ | refine qE ?_ | refine qW ?_ | refine qM ?_); try simp -dsimp (maxSteps := 2000000) (disch := first | omega | (simp only [qZ] <;> omega) | fail) only [push_cast, ↓qP, ↓reduceIte, Nat.reduceEqDiff, Nat.reduceAdd, Nat.reduceMul, Nat.reduceSub, Nat.reduceLeDiff, Int.reduceToNat, reduceCtorEq]) | (refine qA ?_ ?_; (first | omega | (simp only [qL]; omega) | (simp only [qD] at *; omega))))
        exact Mid.mk ⟨by simp [upd, ha], by simp [upd], by simp [upd, ha], by simp [upd], hs1 ▸ h3.drew.keep h7 k7⟩
      · rw [g1, g2] at hs1
        simp only [Bool.and_false, Bool.false_eq_true, if_false] at hs1
        refine Wp.seq (Wp.draw [0, 1, 3, 7, 15, 31, 63, 127, 255, 511, 63, 1087, 3135, 7231, 15423, 32767, 65535] [] (.op 0 false false [] <| .op 1 false false [] <| .op 2 false false [] <| .op 3 false false [] <| .op 4 false false [] <| .op 5 false false [] <| .op 6 false false [] <| .op 7 false false [] <| .op 8 false false [] <| .op 9 false false [] <| .op 10 false false [] <| .op 11 false false [] <| .op 12 false false [] <| .op 13 false false [] <| .op 14 false false [] <| .op 15 false false [] <| .op 16 false false [] <| .nil) mixed (by kernel_rfl) ?_)
        simp -dsimp (maxSteps := 2000000) (disch := first | omega | (simp only [qZ] <;> omega) | fail) only [push_cast, ↓qP, ↓reduceIte, Nat.reduceEqDiff, Nat.reduceAdd, Nat.reduceMul, Nat.reduceSub, Nat.reduceLeDiff, Int.reduceToNat, reduceCtorEq, h3.at_.rdc, g1, g2]
        refine Sm.out ?_
        repeat (first | refine qS ?_ | refine qB ?_ | refine qT rfl ?_ | refine qF rfl ?_ | ((first | refine qR rfl ?_ | refine qK ?_ | refine qE ?_ | refine qW ?_ | refine qM ?_); try simp -dsimp (maxSteps := 2000000) (disch := first | omega | (simp only [qZ] <;> omega) | fail) only [push_cast, ↓qP, ↓reduceIte, Nat.reduceEqDiff, Nat.reduceAdd, Nat.reduceMul, Nat.reduceSub, Nat.reduceLeDiff, Int.reduceToNat, reduceCtorEq, g1, g2]) | (refine qA ?_ ?_; (first | omega | (simp only [qL]; omega) | (simp only [qD] at *; omega))))
        exact Mid.mk ⟨by simp [upd, ha], by simp [upd], by simp [upd, ha], by simp [upd], hs1 ▸ h3.drew⟩
    · rw [g1] at hs1
      simp only [Bool.false_and, Bool.false_eq_true, if_false] at hs1
      refine Wp.seq (Wp.draw [0, 1, 3, 7, 15, 31, 63, 127, 255, 511, 63, 1087, 3135, 7231, 15423, 32767, 65535] [] (.op 0 false false [] <| .op 1 false false [] <| .op 2 false false [] <| .op 3 false false [] <| .op 4 false false [] <| .op 5 false false [] <| .op 6 false false [] <| .op 7 false false [] <| .op 8 false false [] <| .op 9 false false [] <| .op 10 false false [] <| .op 11 false false [] <| .op 12 false false [] <| .op 13 false false [] <| .op 14 false false [] <| .op 15 false false [] <| .op 16 false false [] <| .nil) mixed (by kernel_rfl) ?_)
      simp -dsimp (maxSteps := 2000000) (disch := first | omega | (simp only [qZ] <;> omega) | fail) only [push_cast, ↓qP, ↓reduceIte, Nat.reduceEqDiff, Nat.reduceAdd, Nat.reduceMul, Nat.reduceSub, Nat.reduceLeDiff, Int.reduceToNat, reduceCtorEq, h3.at_.rdc, g1]
      refine Sm.out ?_
      repeat (first | refine qS ?_ | refine qB ?_ | refine qT rfl ?_ | refine qF rfl ?_ | ((first | refine qR rfl ?_ | refine qK ?_ | refine qE ?_ | refine qW ?_ | refine qM ?_); try simp -dsimp (maxSteps := 2000000) (disch := first | omega | (simp only [qZ] <;> omega) | fail) only [push_cast, ↓qP, ↓reduceIte, Nat.reduceEqDiff, Nat.reduceAdd, Nat.reduceMul, Nat.reduceSub, Nat.reduceLeDiff, Int.reduceToNat, reduceCtorEq, g1]) | (refine qA ?_ ?_; (first | omega | (simp only [qL]; omega) | (simp only [qD] at *; omega))))
      exact Mid.mk ⟨by simp [upd, ha], by simp [upd], by simp [upd, ha], by simp [upd], hs1 ▸ h3.drew⟩
  clear h3 hltr
  rintro F w4 ⟨f2, f3, f4, f5, h4⟩
  have hltr := h4.rb.lt
  have hltq := h4.qb.lt
  obtain ⟨s2, hs2⟩ : ∃ s2 : S3, s2 = if s1.f == 0 && decide (size3 e > 2000) then s1.fail 5 else s1 := ⟨_, rfl⟩
  refine Wp.cut (fun F W => F 2 = .pointer (some ⟨w.heap.size, 0, none⟩) ∧ F 3 = .int .i64 0 ∧ F 4 = .pointer (some ⟨a, 0, none⟩) ∧ F 5 = .pointer (some ⟨q, 0, none⟩) ∧ Pr w a q l s2 e [.string (B o), .string (B se), .slice A1 c1 c2, .int .i64 lo1, .int .i64 hi1'] W) ?_ ?_
  · have hlta := h4.at_.lt
    rcases Bool.eq_false_or_eq_true (s1.f == 0) with g1 | g1
    · have hs0 : s0.f = 0 := by
        have g1' : s1.f = 0 := by simpa using g1
        rw [hs1] at g1'
        split at g1'
        · exact absurd g1' (fail_f _ (by decide))
        · exact g1'
      have hgood := hok.out.2 hs0
      have hw := hwt.out hs0
      have hi0 := (hok.out.1.2.2 hs0).2.2
      change wt e + 3 * 0 ≤ _ at hw
      repeat (first | refine qS ?_ | refine qB ?_ | refine qT rfl ?_ | refine qF rfl ?_ | ((first | refine qR rfl ?_ | refine qK ?_ | refine qE ?_ | refine qW ?_ | refine qM ?_); try simp -dsimp (maxSteps := 2000000) (disch := first | omega | (simp only [qZ] <;> omega) | fail) only [push_cast, ↓qP, ↓reduceIte, Nat.reduceEqDiff, Nat.reduceAdd, Nat.reduceMul, Nat.reduceSub, Nat.reduceLeDiff, Int.reduceToNat, reduceCtorEq, f2, f3, f4, f5, h4.at_.rdc, g1, h4.qb.rdc]) | (refine qA ?_ ?_; (first | omega | (simp only [qL]; omega) | (simp only [qD] at *; omega))))
      refine CallV.of isCall_51 (size3_any e hgood (by omega) w4 _ h4.re) ?_
      rintro _ w5 ⟨rfl, k5⟩
      have h5 := h4.keep0 k5
      rcases Bool.eq_false_or_eq_true (decide (size3 e > 2000)) with g2 | g2
      · rw [g1, g2] at hs2
        simp only [Bool.and_self, if_true] at hs2
        refine Sm.out ?_
        repeat (first | refine qS ?_ | refine qB ?_ | refine qT rfl ?_ | refine qF rfl ?_ | ((first | refine qR rfl ?_ | refine qK ?_ | refine qE ?_ | refine qW ?_ | refine qM ?_); try simp -dsimp (maxSteps := 2000000) (disch := first | omega | (simp only [qZ] <;> omega) | fail) only [push_cast, ↓qP, ↓reduceIte, Nat.reduceEqDiff, Nat.reduceAdd, Nat.reduceMul, Nat.reduceSub, Nat.reduceLeDiff, Int.reduceToNat, reduceCtorEq, f2, f3, f4, f5, g2]) | (refine qA ?_ ?_; (first | omega | (simp only [qL]; omega) | (simp only [qD] at *; omega))))
        refine CallV.of isCall_50 (fail3 h5.at_ 5) ?_
        rintro _ w7 ⟨rfl, h7, k7⟩
        refine Sm.out ?_
        repeat (first | refine qS ?_ | refine qB ?_ | refine qT rfl ?_ | refine qF rfl ?_ | ((first | refine qR rfl ?_ | refine qK ?_ | refine qE ?_ | refine qW ?_ | refine qM ?_); try simp -dsimp (maxSteps := 2000000) (disch := first | omega | (simp only [qZ] <;> omega) | fail) only [push_cast, ↓qP, ↓reduceIte, Nat.reduceEqDiff, Nat.reduceAdd, Nat.reduceMul, Nat.reduceSub, Nat.reduceLeDiff, Int.reduceToNat, reduceCtorEq]) | (refine qA ?_ ?_; (first | omega | (simp only [qL]; omega) | (simp only [qD] at *; omega))))
        exact Mid.mk ⟨by simp [upd, f2], by simp [upd, f3], by simp [upd, f4], by simp [upd, f5], hs2 ▸ h5.keep h7 k7⟩
      · rw [g1, g2] at hs2
        simp only [Bool.and_false, Bool.false_eq_true, if_false] at hs2
        refine Sm.out ?_
        repeat (first | refine qS ?_ | refine qB ?_ | refine qT rfl ?_ | refine qF rfl ?_ | ((first | refine qR rfl ?_ | refine qK ?_ | refine qE ?_ | refine qW ?_ | refine qM ?_); try simp -dsimp (maxSteps := 2000000) (disch := first | omega | (simp only [qZ] <;> omega) | fail) only [push_cast, ↓qP, ↓reduceIte, Nat.reduceEqDiff, Nat.reduceAdd, Nat.reduceMul, Nat.reduceSub, Nat.reduceLeDiff, Int.reduceToNat, reduceCtorEq, f2, f3, f4, f5, g2]) | (refine qA ?_ ?_; (first | omega | (simp only [qL]; omega) | (simp only [qD] at *; omega))))
        exact Mid.mk ⟨by simp [upd, f2], by simp [upd, f3], by simp [upd, f4], by simp [upd, f5], hs2 ▸ h5⟩
    · rw [g1] at hs2
      simp only [Bool.false_and, Bool.false_eq_true, if_false] at hs2
      repeat (first | refine qS ?_ | refine qB ?_ | refine qT rfl ?_ | refine qF rfl ?_ | ((first | refine qR rfl ?_ | refine qK ?_ | refine qE ?_ | refine qW ?_ | refine qM ?_); try simp -dsimp (maxSteps := 2000000) (disch := first | omega | (simp only [qZ] <;> omega) | fail) only [push_cast, ↓qP, ↓reduceIte, Nat.reduceEqDiff, Nat.reduceAdd, Nat.reduceMul, Nat.reduceSub, Nat.reduceLeDiff, Int.reduceToNat, reduceCtorEq, f2, f3, f4, f5, h4.at_.rdc, g1]) | (refine qA ?_ ?_; (first | omega | (simp only [qL]; omega) | (simp only [qD] at *; omega))))
      exact Mid.mk ⟨by simp [upd, f2], by simp [upd, f3], by simp [upd, f4], by simp [upd, f5], hs2 ▸ h4⟩
  clear h4 hltr hltq f2 f3 f4 f5
  rintro F w5 ⟨f2, f3, f4, f5, h5⟩
  have hltr := h5.rb.lt
  have hltq := h5.qb.lt
  have hlta := h5.at_.lt
  have hrr := h5.rb.rdc
  have hrz := h5.rb.fz
  have hpp : parse3 l = if s2.f ≠ 0 then (Re.zero, s2.f) else (e, 0) := by
    have hp' := hp.out
    by_cases c1 : s0.f = 0
    · rw [if_neg (by simpa using c1)] at hp'
      by_cases c2 : s0.i < l.length
      · rw [if_pos c2] at hp'
        have : s1 = s0.fail 1 := by rw [hs1]; simp [c1, c2]
        have e1 : s1.f = 1 := by rw [this]; simp [S3.fail, c1]
        have : s2 = s1 := by rw [hs2]; simp [e1]
        rw [hp', this, e1]; rfl
      · rw [if_neg c2] at hp'
        have e0 : s1 = s0 := by rw [hs1]; simp [c2]
        by_cases c3 : size3 e > 2000
        · rw [if_pos c3] at hp'
          have : s2 = s0.fail 5 := by rw [hs2, e0]; simp [c1, c3]
          have e1 : s2.f = 5 := by rw [this]; simp [S3.fail, c1]
          rw [hp', e1]; rfl
        · rw [if_neg c3] at hp'
          have : s2 = s0 := by rw [hs2, e0]; simp [c3]
          rw [hp', this, if_neg (by simpa using c1)]
    · rw [if_pos c1] at hp'
      have e0 : s1 = s0 := by rw [hs1]; simp [c1]
      have : s2 = s0 := by rw [hs2, e0]; simp [c1]
      rw [hp', this, if_pos c1]
  unfold OutP
  rw [hpp]
  clear hpp hp hok hwt hs1 hs2 hsi
  have hha := h5.ha
  have kend : ∀ cs : List Value, Kp (fun _ => False) w (w5.setCells w.heap.size 0 cs) := fun cs => Kp.setCells h5.kp (fun h => absurd h (Nat.lt_irrefl _)) cs 0
  rcases Bool.eq_false_or_eq_true (s2.f != 0) with g1 | g1
  · rw [if_pos (by simpa using g1)]
    refine Sm.out ?_
    repeat (first | ((fail_if_success (first | refine qY (n := 8) ?_ | refine qV (n := 8) ?_)); refine qS ?_) | refine qB ?_ | refine qT rfl ?_ | refine qF rfl ?_ | ((first | refine qR rfl ?_ | refine qK ?_ | refine qE ?_ | refine qW ?_ | refine qM ?_); try simp -dsimp (maxSteps := 2000000) (disch := first | omega | (simp only [qZ] <;> omega) | fail) only [push_cast, ↓qP, ↓reduceIte, Nat.reduceEqDiff, Nat.reduceAdd, Nat.reduceMul, Nat.reduceSub, Nat.reduceLeDiff, Int.reduceToNat, reduceCtorEq, f2, f3, f4, f5, h5.at_.rdc, g1]) | (refine qA ?_ ?_; (first | omega | (simp only [qL]; omega) | (simp only [qD] at *; omega))))
    have h6 := h5.drew
    have hrr6 := h6.rb.rdc
    have hrz6 := h6.rb.fz
    refine Wp.seq (Wp.draw [0, 0, 2, 6, 14, 1, 63] [5] (.op 0 false false [] <| .op 1 false false [] <| .op 2 false false [] <| .op 3 false false [] <| .op 4 false true [] <| .op 5 true false [] <| .op 6 false false [] <| .nil) mixed (by kernel_rfl) ?_)
    simp -dsimp (maxSteps := 2000000) (disch := first | omega | (simp only [qZ] <;> omega) | fail) only [push_cast, ↓qP, ↓reduceIte, Nat.reduceEqDiff, Nat.reduceAdd, Nat.reduceMul, Nat.reduceSub, Nat.reduceLeDiff, Int.reduceToNat, reduceCtorEq, h5.at_.rdc, f2, f4, hrr, hrz]
    refine Sm.out ?_
    repeat (first | refine qS ?_ | refine qB ?_ | refine qT rfl ?_ | refine qF rfl ?_ | ((first | refine qR rfl ?_ | refine qK ?_ | refine qE ?_ | refine qW ?_ | refine qM ?_); try simp -dsimp (maxSteps := 2000000) (disch := first | omega | (simp only [qZ] <;> omega) | fail) only [push_cast, ↓qP, ↓reduceIte, Nat.reduceEqDiff, Nat.reduceAdd, Nat.reduceMul, Nat.reduceSub, Nat.reduceLeDiff, Int.reduceToNat, reduceCtorEq, f2, f4, h5.at_.rdc, hrr, hrz]) | (refine qA ?_ ?_; (first | omega | (simp only [qL]; omega) | (simp only [qD] at *; omega))))
    have h2 := (h6.rb.setAll (vs := zRe) rfl).rdn
    refine post_cell_tmp (vs := zRe) (by simp [upd, f2]) tk_33 h2 ?_
    exact ⟨zRe, by simp [upd], zRe_is _ _, Kp.setCells h6.kp (fun h => absurd h (Nat.lt_irrefl _)) zRe 0⟩
  · rw [if_neg (by simpa using g1)]
    repeat (first | refine qS ?_ | refine qB ?_ | refine qT rfl ?_ | refine qF rfl ?_ | ((first | refine qR rfl ?_ | refine qK ?_ | refine qE ?_ | refine qW ?_ | refine qM ?_); try simp -dsimp (maxSteps := 2000000) (disch := first | omega | (simp only [qZ] <;> omega) | fail) only [push_cast, ↓qP, ↓reduceIte, Nat.reduceEqDiff, Nat.reduceAdd, Nat.reduceMul, Nat.reduceSub, Nat.reduceLeDiff, Int.reduceToNat, reduceCtorEq, f2, f3, f4, f5, h5.at_.rdc, g1, h5.qb.rdc, hrr, hrz]) | (refine qA ?_ ?_; (first | omega | (simp only [qL]; omega) | (simp only [qD] at *; omega))))
    have h2 := (h5.rb.setAll (vs := [.string (B o), .string (B se), .slice A1 c1 c2, .int .i64 lo1, .int .i64 hi1']) rfl).rdn
    refine post_cell_tmp (by simp [upd, f2]) tk_33 h2 ?_
    have hk : Kp (· = w.heap.size) w5 (w5.setCells w.heap.size 0 [.string (B o), .string (B se), .slice A1 c1 c2, .int .i64 lo1, .int .i64 hi1']) := (Kp.refl (· = w.heap.size) w5).setCells (fun _ => rfl) [.string (B o), .string (B se), .slice A1 c1 c2, .int .i64 lo1, .int .i64 hi1'] 0
    exact ⟨[.string (B o), .string (B se), .slice A1 c1 c2, .int .i64 lo1, .int .i64 hi1'], by simp [upd], h5.re.Kp hk (fun b hb e => by have := hb.1; omega) (fun b hb => ⟨by have := hb.1; omega, Nat.lt_of_lt_of_le hb.2.1 hk.size⟩), kend [.string (B o), .string (B se), .slice A1 c1 c2, .int .i64 lo1, .int .i64 hi1']⟩
end
end Go.Proofs.Ytddichibegppjaa

/- The reference's matcher: has, both, same. -/
namespace Go.Proofs.Ytddichibegppjaa
open Go Go.VC

/-- Bools that may be read. -/
def Bs (w : World) (b : Nat) (fr : List Bool) : Prop := b < w.heap.size ∧ ∀ j, j < fr.length → rdc w b j = some (.bool (fr.getD j false))
theorem Bs.Kp {w w' : World} {b : Nat} {fr : List Bool} (h : Bs w b fr) (hk : VC.Kp (fun _ => False) w w') : Bs w' b fr := ⟨Nat.lt_of_lt_of_le h.1 hk.size, fun j hj => by rw [hk.rdc h.1 id]; exact h.2 j hj⟩
theorem blk_bs {w : World} {b : Nat} {fr : List Bool} (h : Blk w b 4 (bools fr)) : Bs w b fr := ⟨h.lt, fun j hj => by rw [h.rdc]; exact bools_get fr j hj⟩
theorem bools_len (fr : List Bool) : (bools fr).length = fr.length := by simp [bools]

theorem has_any (set : List UInt8) (c : UInt8) (w : World) (hl : set.length ≤ 1000000000) : Calls Try.prog 77 #[.string (B set), by8 c] w fun e w' => e = .returned (.bool (set.contains c)) ∧ w = w' := by
  unfold by8
  refine enter (n := 17) (args := [.string (B set), .int .u8 (c.toNat : Int)]) Try.func77 rfl rfl rfl (by simp) ?_
  repeat (first | refine qS ?_ | refine qB ?_ | refine qT rfl ?_ | refine qF rfl ?_ | ((first | refine qR rfl ?_ | refine qK ?_ | refine qE ?_ | refine qW ?_ | refine qM ?_); try simp -dsimp (maxSteps := 2000000) (disch := first | omega | (simp only [qZ] <;> omega) | fail) only [push_cast, ↓qP, ↓reduceIte, Nat.reduceEqDiff, Nat.reduceAdd, Nat.reduceMul, Nat.reduceSub, Nat.reduceLeDiff, Int.reduceToNat, reduceCtorEq]) | (refine qA ?_ ?_; (first | omega | (simp only [qL]; omega) | (simp only [qD] at *; omega))))
  refine Wp.loop (α := Nat) (fun j F W => j ≤ set.length ∧ F 0 = .string (B set) ∧ F 1 = .int .u8 (c.toNat : Int) ∧ F 5 = .int .i64 j ∧ w = W ∧ Hide (∀ i, i < j → byteAt set i ≠ c)) (fun j => set.length - j) 0
    ⟨Nat.zero_le _, by simp [upd, arg], by simp [upd, arg], by simp [upd], rfl, ⟨fun i hi => by omega⟩⟩ ?_
  rintro j F _ ⟨hj, f0, f1, f5, rfl, hno⟩
  rcases Nat.lt_or_ge j set.length with hlt | hge
  · have c1 : decide ((j : Int) < (set.length : Int)) = true := decide_eq_true (by omega)
    have e1 : (((byteAt set j).toNat : Int) == (c.toNat : Int)) = (byteAt set j == c) := u8_eq' _ _
    rcases Bool.eq_false_or_eq_true (byteAt set j == c) with c2 | c2
    · repeat (first | refine qS ?_ | refine qB ?_ | refine qT rfl ?_ | refine qF rfl ?_ | ((first | refine qR rfl ?_ | refine qK ?_ | refine qE ?_ | refine qW ?_ | refine qM ?_); try simp -dsimp (maxSteps := 2000000) (disch := first | omega | (simp only [qZ] <;> omega) | fail) only [push_cast, ↓qP, ↓reduceIte, Nat.reduceEqDiff, Nat.reduceAdd, Nat.reduceMul, Nat.reduceSub, Nat.reduceLeDiff, Int.reduceToNat, reduceCtorEq, f0, f1, f5, c1, e1, c2]) | (refine qA ?_ ?_; (first | omega | (simp only [qL]; omega) | (simp only [qD] at *; omega))))
      refine Ret.mk ⟨?_, rfl⟩
      congr 2
      have : byteAt set j = c := by simpa using c2
      rw [← this]
      symm
      rw [List.contains_iff_mem]
      simp only [byteAt, List.getD_eq_getElem?_getD, List.getElem?_eq_getElem hlt, Option.getD_some]
      exact List.getElem_mem hlt
    · repeat (first | refine qS ?_ | refine qB ?_ | refine qT rfl ?_ | refine qF rfl ?_ | ((first | refine qR rfl ?_ | refine qK ?_ | refine qE ?_ | refine qW ?_ | refine qM ?_); try simp -dsimp (maxSteps := 2000000) (disch := first | omega | (simp only [qZ] <;> omega) | fail) only [push_cast, ↓qP, ↓reduceIte, Nat.reduceEqDiff, Nat.reduceAdd, Nat.reduceMul, Nat.reduceSub, Nat.reduceLeDiff, Int.reduceToNat, reduceCtorEq, f0, f1, f5, c1, e1, c2]) | (refine qA ?_ ?_; (first | omega | (simp only [qL]; omega) | (simp only [qD] at *; omega))))
      refine Again.mk (j + 1) ⟨by omega, by simp [upd, f0], by simp [upd, f1], by simp [upd], rfl, ⟨fun i hi => ?_⟩⟩ (by omega)
      rcases Nat.lt_or_ge i j with h | h
      · exact hno.out i h
      · obtain rfl : i = j := by omega
        simpa using c2
  · have c1 : decide ((j : Int) < (set.length : Int)) = false := decide_eq_false (by omega)
    repeat (first | refine qS ?_ | refine qB ?_ | refine qT rfl ?_ | refine qF rfl ?_ | ((first | refine qR rfl ?_ | refine qK ?_ | refine qE ?_ | refine qW ?_ | refine qM ?_); try simp -dsimp (maxSteps := 2000000) (disch := first | omega | (simp only [qZ] <;> omega) | fail) only [push_cast, ↓qP, ↓reduceIte, Nat.reduceEqDiff, Nat.reduceAdd, Nat.reduceMul, Nat.reduceSub, Nat.reduceLeDiff, Int.reduceToNat, reduceCtorEq, f0, f1, f5, c1]) | (refine qA ?_ ?_; (first | omega | (simp only [qL]; omega) | (simp only [qD] at *; omega))))
    refine Ret.mk ⟨?_, rfl⟩
    congr 2
    symm
    rw [← Bool.not_eq_true, List.contains_iff_mem]
    intro hm
    obtain ⟨i, hi, e⟩ := List.getElem_of_mem hm
    have := hno.out i (by omega)
    simp only [byteAt, List.getD_eq_getElem?_getD, List.getElem?_eq_getElem hi, Option.getD_some] at this
    exact this e

section
variable {w : World} {a b : Nat} {x y : List Bool} {c d : Nat}

theorem orB_get (x y : List Bool) (h : x.length = y.length) (j : Nat) : (orB x y).getD j false = (x.getD j false || y.getD j false) := by
  simp only [orB, List.getD_eq_getElem?_getD, List.getElem?_zipWith]
  rcases Nat.lt_or_ge j x.length with h1 | h1
  · rw [List.getElem?_eq_getElem h1, List.getElem?_eq_getElem (h ▸ h1)]; simp
  · rw [List.getElem?_eq_none h1, List.getElem?_eq_none (h ▸ h1)]; simp
theorem list_ext_getD {x y : List Bool} (hl : x.length = y.length) (h : ∀ j, j < x.length → x.getD j false = y.getD j false) : x = y := by
  refine List.ext_getElem hl fun j h1 h2 => ?_
  have := h j h1
  simpa [List.getD_eq_getElem?_getD, List.getElem?_eq_getElem h1, List.getElem?_eq_getElem h2] using this

/-- Those below a place, the others none. -/
def upto (x : List Bool) (k : Nat) : List Bool := x.zipIdx.map fun (b, j) => decide (j < k) && b
theorem upto_len (x : List Bool) (k : Nat) : (upto x k).length = x.length := by simp [upto]
theorem upto_get (x : List Bool) (k j : Nat) : (upto x k).getD j false = (decide (j < k) && x.getD j false) := by
  simp only [upto, List.getD_eq_getElem?_getD, List.getElem?_map, List.getElem?_zipIdx, Nat.zero_add]
  cases x[j]? <;> simp
theorem upto_zero (x : List Bool) : upto x 0 = List.replicate x.length false := by
  refine list_ext_getD (by simp [upto]) fun j hj => ?_
  rw [upto_get]
  simp [List.getD_eq_getElem?_getD, List.getElem?_replicate]
  split <;> rfl
theorem upto_all (x : List Bool) : upto x x.length = x := by
  refine list_ext_getD (upto_len _ _) fun j hj => ?_
  rw [upto_len] at hj
  rw [upto_get]; simp [hj]
theorem upto_succ (x : List Bool) (k : Nat) (hk : k < x.length) : upto x (k + 1) = (upto x k).set k (x.getD k false) := by
  refine list_ext_getD (by simp [upto_len]) fun j hj => ?_
  rw [upto_len] at hj
  rw [upto_get]
  by_cases e : j = k
  · subst e; simp [List.getD_eq_getElem?_getD, List.getElem?_set, upto_len, hk]
  · have : ((upto x k).set k (x.getD k false)).getD j false = (upto x k).getD j false := by
      simp [List.getD_eq_getElem?_getD, List.getElem?_set, Ne.symm e]
    rw [this, upto_get]
    congr 1
    rw [decide_eq_decide]; omega
theorem upto_skip (x : List Bool) (k : Nat) (hk : x.getD k false = false) : upto x (k + 1) = upto x k := by
  refine list_ext_getD (by simp [upto_len]) fun j hj => ?_
  rw [upto_get, upto_get]
  by_cases e : j = k
  · subst e; simp only [List.getD_eq_getElem?_getD] at hk ⊢; rw [hk]; simp
  · congr 1
    rw [decide_eq_decide]; omega

theorem both_any (hx : Bs w a x) (hy : Bs w b y) (hl : x.length = y.length) (hbig : x.length ≤ 1000000000) : Calls Try.prog 78 #[.slice (some ⟨a, 0, none⟩) x.length c, .slice (some ⟨b, 0, none⟩) y.length d] w fun e w' =>
    e = .returned (.slice (some ⟨w.heap.size, 0, none⟩) x.length x.length) ∧ Blk w' w.heap.size 4 (bools (orB x y)) ∧ Kp (fun _ => False) w w' := by
  have hol := orB_len hl
  refine enter (n := 30) (args := [.slice (some ⟨a, 0, none⟩) x.length c, .slice (some ⟨b, 0, none⟩) y.length d]) Try.func78 rfl rfl rfl (by simp) ?_
  repeat (first | refine qS ?_ | refine qB ?_ | refine qT rfl ?_ | refine qF rfl ?_ | ((first | refine qR rfl ?_ | refine qK ?_ | refine qE ?_ | refine qW ?_ | refine qM ?_); try simp -dsimp (maxSteps := 2000000) (disch := first | omega | (simp only [qZ] <;> omega) | fail) only [push_cast, ↓qP, ↓reduceIte, Nat.reduceEqDiff, Nat.reduceAdd, Nat.reduceMul, Nat.reduceSub, Nat.reduceLeDiff, Int.reduceToNat, reduceCtorEq]) | (refine qA ?_ ?_; (first | omega | (simp only [qL]; omega) | (simp only [qD] at *; omega))))
  refine Wp.loop (α := Nat) (fun j F W => j ≤ x.length ∧ F 0 = .slice (some ⟨a, 0, none⟩) x.length c ∧ F 1 = .slice (some ⟨b, 0, none⟩) y.length d ∧ F 5 = .slice (some ⟨w.heap.size, 0, none⟩) x.length x.length ∧ F 6 = .int .i64 j ∧ Blk W w.heap.size 4 (bools (upto (orB x y) j)) ∧ Kp (fun _ => False) w W) (fun j => x.length - j) 0
    ⟨Nat.zero_le _, by simp [upd, arg], by simp [upd, arg], by simp [upd], by simp [upd], ?_, (Kp.refl _ w).alloc _⟩ ?_
  · have := Blk.new w 4 (zeros [.bool false] x.length)
    rw [zeros_one] at this
    rw [upto_zero, hol]
    simpa [bools, zeros_one] using this
  rintro j F W ⟨hj, f0, f1, f5, f6, hq, hk⟩
  have hx2 := hx.Kp hk
  have hy2 := hy.Kp hk
  have hltx := hx2.1
  have hlty := hy2.1
  have hltq := hq.lt
  rcases Nat.lt_or_ge j x.length with hlt | hge
  · have c1 : decide ((j : Int) < (x.length : Int)) = true := decide_eq_true (by omega)
    have r1 := hx2.2 j hlt
    have r2 := hy2.2 j (by omega)
    have hg := orB_get x y hl j
    have hset := hq.set j (.bool ((orB x y).getD j false))
    rw [bools_set, ← upto_succ _ _ (by omega)] at hset
    have hcell : rdc W w.heap.size j = some (.bool ((upto (orB x y) j).getD j false)) := by
      rw [hq.rdc]; exact bools_get _ _ (by rw [upto_len]; omega)
    rcases Bool.eq_false_or_eq_true (x.getD j false) with c2 | c2
    · rw [c2] at r1 hg
      rw [hg] at hset
      repeat (first | refine qS ?_ | refine qB ?_ | refine qT rfl ?_ | refine qF rfl ?_ | ((first | refine qR rfl ?_ | refine qK ?_ | refine qE ?_ | refine qW ?_ | refine qM ?_); try simp -dsimp (maxSteps := 2000000) (disch := first | omega | (simp only [qZ] <;> omega) | fail) only [push_cast, ↓qP, ↓reduceIte, Nat.reduceEqDiff, Nat.reduceAdd, Nat.reduceMul, Nat.reduceSub, Nat.reduceLeDiff, Int.reduceToNat, reduceCtorEq, f0, f1, f5, f6, c1, r1, hcell, hq.fz]) | (refine qA ?_ ?_; (first | omega | (simp only [qL]; omega) | (simp only [qD] at *; omega))))
      exact Again.mk (j + 1) ⟨by omega, by simp [upd, f0], by simp [upd, f1], by simp [upd, f5], by simp [upd], hset, hk.setCell (fun h => absurd h (Nat.lt_irrefl _)) _⟩ (by omega)
    · rw [c2] at r1 hg
      rw [hg, Bool.false_or] at hset
      repeat (first | refine qS ?_ | refine qB ?_ | refine qT rfl ?_ | refine qF rfl ?_ | ((first | refine qR rfl ?_ | refine qK ?_ | refine qE ?_ | refine qW ?_ | refine qM ?_); try simp -dsimp (maxSteps := 2000000) (disch := first | omega | (simp only [qZ] <;> omega) | fail) only [push_cast, ↓qP, ↓reduceIte, Nat.reduceEqDiff, Nat.reduceAdd, Nat.reduceMul, Nat.reduceSub, Nat.reduceLeDiff, Int.reduceToNat, reduceCtorEq, f0, f1, f5, f6, c1, r1, r2, hcell, hq.fz]) | (refine qA ?_ ?_; (first | omega | (simp only [qL]; omega) | (simp only [qD] at *; omega))))
      exact Again.mk (j + 1) ⟨by omega, by simp [upd, f0], by simp [upd, f1], by simp [upd, f5], by simp [upd], hset, hk.setCell (fun h => absurd h (Nat.lt_irrefl _)) _⟩ (by omega)
  · have c1 : decide ((j : Int) < (x.length : Int)) = false := decide_eq_false (by omega)
    obtain rfl : j = x.length := by omega
    rw [show x.length = (orB x y).length from hol.symm, upto_all] at hq
    repeat (first | refine qS ?_ | refine qB ?_ | refine qT rfl ?_ | refine qF rfl ?_ | ((first | refine qR rfl ?_ | refine qK ?_ | refine qE ?_ | refine qW ?_ | refine qM ?_); try simp -dsimp (maxSteps := 2000000) (disch := first | omega | (simp only [qZ] <;> omega) | fail) only [push_cast, ↓qP, ↓reduceIte, Nat.reduceEqDiff, Nat.reduceAdd, Nat.reduceMul, Nat.reduceSub, Nat.reduceLeDiff, Int.reduceToNat, reduceCtorEq, f0, f1, f5, f6, c1]) | (refine qA ?_ ?_; (first | omega | (simp only [qL]; omega) | (simp only [qD] at *; omega))))
    exact Ret.mk ⟨by simp, hq, hk⟩

theorem same_any (hx : Bs w a x) (hy : Bs w b y) (hl : x.length = y.length) (hbig : x.length ≤ 1000000000) : Calls Try.prog 79 #[.slice (some ⟨a, 0, none⟩) x.length c, .slice (some ⟨b, 0, none⟩) y.length d] w fun e w' =>
    e = .returned (.bool (decide (x = y))) ∧ Kp (fun _ => False) w w' := by
  refine enter (n := 21) (args := [.slice (some ⟨a, 0, none⟩) x.length c, .slice (some ⟨b, 0, none⟩) y.length d]) Try.func79 rfl rfl rfl (by simp) ?_
  repeat (first | refine qS ?_ | refine qB ?_ | refine qT rfl ?_ | refine qF rfl ?_ | ((first | refine qR rfl ?_ | refine qK ?_ | refine qE ?_ | refine qW ?_ | refine qM ?_); try simp -dsimp (maxSteps := 2000000) (disch := first | omega | (simp only [qZ] <;> omega) | fail) only [push_cast, ↓qP, ↓reduceIte, Nat.reduceEqDiff, Nat.reduceAdd, Nat.reduceMul, Nat.reduceSub, Nat.reduceLeDiff, Int.reduceToNat, reduceCtorEq]) | (refine qA ?_ ?_; (first | omega | (simp only [qL]; omega) | (simp only [qD] at *; omega))))
  refine Wp.loop (α := Nat) (fun j F W => j ≤ x.length ∧ F 0 = .slice (some ⟨a, 0, none⟩) x.length c ∧ F 1 = .slice (some ⟨b, 0, none⟩) y.length d ∧ F 5 = .int .i64 j ∧ Kp (fun _ => False) w W ∧ Hide (∀ i, i < j → x.getD i false = y.getD i false)) (fun j => x.length - j) 0
    ⟨Nat.zero_le _, by simp [upd, arg], by simp [upd, arg], by simp [upd], Kp.refl _ w, ⟨fun i hi => by omega⟩⟩ ?_
  rintro j F W ⟨hj, f0, f1, f5, hk, hs⟩
  have hx2 := hx.Kp hk
  have hy2 := hy.Kp hk
  have hltx := hx2.1
  have hlty := hy2.1
  rcases Nat.lt_or_ge j x.length with hlt | hge
  · have c1 : decide ((j : Int) < (x.length : Int)) = true := decide_eq_true (by omega)
    have r1 := hx2.2 j hlt
    have r2 := hy2.2 j (by omega)
    repeat (first | refine qS ?_ | refine qB ?_ | refine qT rfl ?_ | refine qF rfl ?_ | ((first | refine qR rfl ?_ | refine qK ?_ | refine qE ?_ | refine qW ?_ | refine qM ?_); try simp -dsimp (maxSteps := 2000000) (disch := first | omega | (simp only [qZ] <;> omega) | fail) only [push_cast, ↓qP, ↓reduceIte, Nat.reduceEqDiff, Nat.reduceAdd, Nat.reduceMul, Nat.reduceSub, Nat.reduceLeDiff, Int.reduceToNat, reduceCtorEq, f0, f1, f5, c1]) | (refine qA ?_ ?_; (first | omega | (simp only [qL]; omega) | (simp only [qD] at *; omega))))
    refine Wp.draw [0, 0, 3, 7, 0, 0, 48, 112, 255] [] (.op 0 false false [] <| .op 1 false false [] <| .op 2 false false [] <| .op 3 false false [] <| .op 4 false false [] <| .op 5 false false [] <| .op 6 false false [] <| .op 7 false false [] <| .op 8 false false [] <| .nil) mixed (by kernel_rfl) ?_
    simp -dsimp (maxSteps := 2000000) (disch := first | omega | (simp only [qZ] <;> omega) | fail) only [push_cast, ↓qP, ↓reduceIte, Nat.reduceEqDiff, Nat.reduceAdd, Nat.reduceMul, Nat.reduceSub, Nat.reduceLeDiff, Int.reduceToNat, reduceCtorEq, f0, f1, f5, r1, r2]
    refine ⟨by omega, ?_⟩
    rcases Bool.eq_false_or_eq_true (x.getD j false == y.getD j false) with c2 | c2
    · have c2' : (!x.getD j false == y.getD j false) = false := by rw [c2]; rfl
      refine Sm.out ?_
      repeat (first | refine qS ?_ | refine qB ?_ | refine qT rfl ?_ | refine qF rfl ?_ | ((first | refine qR rfl ?_ | refine qK ?_ | refine qE ?_ | refine qW ?_ | refine qM ?_); try simp -dsimp (maxSteps := 2000000) (disch := first | omega | (simp only [qZ] <;> omega) | fail) only [push_cast, ↓qP, ↓reduceIte, Nat.reduceEqDiff, Nat.reduceAdd, Nat.reduceMul, Nat.reduceSub, Nat.reduceLeDiff, Int.reduceToNat, reduceCtorEq, f0, f1, f5, c2']) | (refine qA ?_ ?_; (first | omega | (simp only [qL]; omega) | (simp only [qD] at *; omega))))
      refine Again.mk (j + 1) ⟨by omega, by simp [upd, f0], by simp [upd, f1], by simp [upd], hk.drew, ⟨fun i hi => ?_⟩⟩ (by omega)
      rcases Nat.lt_or_ge i j with h | h
      · exact hs.out i h
      · obtain rfl : i = j := by omega
        simpa using c2
    · have c2' : (!x.getD j false == y.getD j false) = true := by rw [c2]; rfl
      refine Sm.out ?_
      repeat (first | refine qS ?_ | refine qB ?_ | refine qT rfl ?_ | refine qF rfl ?_ | ((first | refine qR rfl ?_ | refine qK ?_ | refine qE ?_ | refine qW ?_ | refine qM ?_); try simp -dsimp (maxSteps := 2000000) (disch := first | omega | (simp only [qZ] <;> omega) | fail) only [push_cast, ↓qP, ↓reduceIte, Nat.reduceEqDiff, Nat.reduceAdd, Nat.reduceMul, Nat.reduceSub, Nat.reduceLeDiff, Int.reduceToNat, reduceCtorEq, f0, f1, f5, c2']) | (refine qA ?_ ?_; (first | omega | (simp only [qL]; omega) | (simp only [qD] at *; omega))))
      refine Ret.mk ⟨?_, hk.drew⟩
      rw [decide_eq_false (fun e => by rw [e] at c2; simp at c2)]
  · have c1 : decide ((j : Int) < (x.length : Int)) = false := decide_eq_false (by omega)
    obtain rfl : j = x.length := by omega
    repeat (first | refine qS ?_ | refine qB ?_ | refine qT rfl ?_ | refine qF rfl ?_ | ((first | refine qR rfl ?_ | refine qK ?_ | refine qE ?_ | refine qW ?_ | refine qM ?_); try simp -dsimp (maxSteps := 2000000) (disch := first | omega | (simp only [qZ] <;> omega) | fail) only [push_cast, ↓qP, ↓reduceIte, Nat.reduceEqDiff, Nat.reduceAdd, Nat.reduceMul, Nat.reduceSub, Nat.reduceLeDiff, Int.reduceToNat, reduceCtorEq, f0, f1, f5, c1]) | (refine qA ?_ ?_; (first | omega | (simp only [qL]; omega) | (simp only [qD] at *; omega))))
    refine Ret.mk ⟨?_, hk⟩
    rw [decide_eq_true (list_ext_getD hl hs.out)]
end
end Go.Proofs.Ytddichibegppjaa
