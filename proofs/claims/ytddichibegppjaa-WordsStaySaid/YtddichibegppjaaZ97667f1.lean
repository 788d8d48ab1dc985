/- WordsStay, the plain law: what is replaced by & alone stays as it was. -/
import Derived.Test.YtddichibegppjaaZ17e320e
import Derived.Test.YtddichibegppjaaVs
set_option linter.unusedSimpArgs false
set_option linter.unusedVariables false
set_option maxRecDepth 100000
set_option maxHeartbeats 8000000
attribute [local irreducible] Go.VC.OpV Go.VC.CallV Go.VC.Wp Go.VC.post
namespace Go.Proofs.Ytddichibegppjaa
open Go Go.VC

theorem byL_and (f : List UInt8) : byL f [38] = f := by simp [byL]
theorem byL_nil (f : List UInt8) : byL f [] = [] := by simp [byL]

theorem subEnd_some {s o : List UInt8} {most : Int} {c p : Nat} (h : ((o ++ s.drop p).length : Int) ≤ most) : subEnd s most o c p = some (o ++ s.drop p, c) := by
  unfold subEnd; rw [if_neg (by omega)]

/-- With & and with nothing, side by side. -/
theorem subGo_stay {find : Nat → Option (Nat × Nat)} {s : List UInt8} (hf : ∀ p a n, find p = some (a, n) → p ≤ a ∧ a + n ≤ s.length) (hs : s.length ≤ 60) : ∀ (k : Nat) (o : List UInt8) (c p : Nat) (beh : Bool), o.length ≤ p → o.length ≤ s.length →
    ∃ c' t, c ≤ c' ∧ subGo find [38] s true 1000 k (s.take p) c p beh = some (s, c') ∧ subGo find [] s true 1000 k o c p beh = some (t, c') ∧ t.length ≤ s.length
  | k, o, c, p, beh, ho, ho' => by
    have hend : ∃ c' t, c ≤ c' ∧ subEnd s 1000 (s.take p) c p = some (s, c') ∧ subEnd s 1000 o c p = some (t, c') ∧ t.length ≤ s.length := by
      refine ⟨c, o ++ s.drop p, Nat.le_refl _, ?_, ?_, ?_⟩
      · rw [subEnd_some (by simp; omega), List.take_append_drop]
      · exact subEnd_some (by simp; omega)
      · simp; omega
    cases k with
    | zero => exact hend
    | succ k =>
      cases hfp : find p with
      | none =>
        obtain ⟨c', t, h0, h1, h2, h3⟩ := hend
        exact ⟨c', t, h0, by rw [subGo_none hfp]; exact h1, by rw [subGo_none hfp]; exact h2, h3⟩
      | some x =>
        obtain ⟨i, n⟩ := x
        obtain ⟨hi, hn⟩ := hf _ _ _ hfp
        have e1 : s.take p ++ (s.drop p).take (i - p) = s.take i := by
          rw [← List.take_add, show p + (i - p) = i by omega]
        have e2 : s.take i ++ (s.drop i).take n = s.take (i + n) := by rw [← List.take_add]
        have e3 : s.take i ++ (s.drop i).take 1 = s.take (i + 1) := by rw [← List.take_add]
        have l1 : (s.drop p).take (i - p) = (s.drop p).take (i - p) := rfl
        simp only [subGo, true_or, if_true, hfp, byL_and, byL_nil, List.append_nil, e1, e2]
        have g1 : ¬ (((s.take (i + n)).length : Int) > 1000) := by simp; omega
        have g2 : ¬ (((o ++ (s.drop p).take (i - p)).length : Int) > 1000) := by simp; omega
        rw [if_neg g1, if_neg g2]
        have up : ∀ {a b : Option (List UInt8 × Nat)} {c1 : Nat}, c ≤ c1 → (∃ c' t, c1 ≤ c' ∧ a = some (s, c') ∧ b = some (t, c') ∧ t.length ≤ s.length) → ∃ c' t, c ≤ c' ∧ a = some (s, c') ∧ b = some (t, c') ∧ t.length ≤ s.length :=
          fun h ⟨c', t, h0, h1, h2, h3⟩ => ⟨c', t, Nat.le_trans h h0, h1, h2, h3⟩
        by_cases hc : n > 0 ∨ beh = false ∨ i > p
        · simp only [if_pos hc]
          by_cases hz : n = 0
          · subst hz
            simp only [Nat.add_zero, and_self, if_true, e3]
            exact up (by omega) (subGo_stay hf hs k _ (c + 1) (i + 1) false (by simp; omega) (by simp; omega))
          · simp only [hz, false_and, if_false]
            exact up (by omega) (subGo_stay hf hs k _ (c + 1) (i + n) _ (by simp; omega) (by simp; omega))
        · simp only [if_neg hc]
          have hz : n = 0 := by omega
          subst hz
          simp only [and_self, if_true, e3]
          exact up (by omega) (subGo_stay hf hs k _ c (i + 1) false (by simp; omega) (by simp; omega))

theorem subGo_hit {find : Nat → Option (Nat × Nat)} {repl s : List UInt8} {all : Bool} {most : Int} {k c p i n : Nat} {o : List UInt8} {beh : Bool} (h : find p = some (i, n)) (hc : all = true ∨ c = 0) (hb : n > 0 ∨ beh = false ∨ i > p)
    (hm : ((o ++ (s.drop p).take (i - p) ++ byL ((s.drop i).take n) repl).length : Int) ≤ most) : subGo find repl s all most (k + 1) o c p beh =
      if n = 0 ∧ all = true then subGo find repl s all most k (o ++ (s.drop p).take (i - p) ++ byL ((s.drop i).take n) repl ++ (s.drop i).take 1) (c + 1) (i + 1) false
      else subGo find repl s all most k (o ++ (s.drop p).take (i - p) ++ byL ((s.drop i).take n) repl) (c + 1) (i + n) (decide (n > 0)) := by
  simp only [subGo]
  rw [if_pos hc, h]
  simp only
  rw [if_pos hb, if_neg (by omega)]

theorem stay_law {e : Re} {r s : List UInt8} (hr : r.length ≤ 60) (hs : s.length ≤ 60) :
    ∃ c t u one, sub3 e [38] s true 1000 = some (s, c) ∧ sub3 e [] s true 1000 = some (t, c) ∧ t.length ≤ s.length ∧ sub3 e r s false 100000 = some (u, one) ∧ one ≤ 1 ∧
      ((findI e s 0 = none ∧ c = 0 ∧ one = 0 ∧ u = s) ∨ (∃ i n, findI e s 0 = some (i, n) ∧ 0 < c ∧ one = 1)) := by
  have hf : ∀ p a n, (fun p : Nat => findI e s (p : Int)) p = some (a, n) → p ≤ a ∧ a + n ≤ s.length := fun p a n h => findI_in h
  cases h0 : findI e s 0 with
  | none =>
    have hn : (fun p : Nat => findI e s (p : Int)) 0 = none := h0
    refine ⟨0, s, s, 0, ?_, ?_, Nat.le_refl _, ?_, by omega, .inl ⟨rfl, rfl, rfl, rfl⟩⟩
    all_goals
      unfold sub3
      rw [subGo_none hn, subEnd_some (by simp; omega)]
      simp
  | some x =>
    obtain ⟨i, n⟩ := x
    have hn : (fun p : Nat => findI e s (p : Int)) 0 = some (i, n) := h0
    obtain ⟨hi, hin⟩ := hf _ _ _ hn
    have hb := byL_len ((s.drop i).take n) r
    have hb' : r.length * (((s.drop i).take n).length + 1) ≤ 60 * 61 := Nat.mul_le_mul hr (by simp; omega)
    have h1 : ∃ u, sub3 e r s false 100000 = some (u, 1) := by
      unfold sub3
      rw [subGo_hit hn (.inr rfl) (.inr (.inl rfl)) (by simp; omega), if_neg (by simp), subGo_stop (by simp)]
      exact ⟨_, subEnd_some (by simp; omega)⟩
    obtain ⟨u, hu⟩ := h1
    obtain ⟨c', t, a1, a2, a3, a4⟩ : ∃ c' t, 1 ≤ c' ∧ sub3 e [38] s true 1000 = some (s, c') ∧ sub3 e [] s true 1000 = some (t, c') ∧ t.length ≤ s.length := by
      have e2 : (s.take i) ++ (s.drop i).take n = s.take (i + n) := by rw [← List.take_add]
      have e3 : s.take i ++ (s.drop i).take 1 = s.take (i + 1) := by rw [← List.take_add]
      unfold sub3
      have s1 := subGo_hit (find := fun p : Nat => findI e s (p : Int)) (p := 0) (repl := [38]) (s := s) (all := true) (most := 1000) (k := s.length + 1) (c := 0) (o := []) (beh := false) hn (.inl rfl) (.inr (.inl rfl)) (by rw [byL_and]; simp; omega)
      have s2 := subGo_hit (find := fun p : Nat => findI e s (p : Int)) (p := 0) (repl := []) (s := s) (all := true) (most := 1000) (k := s.length + 1) (c := 0) (o := []) (beh := false) hn (.inl rfl) (.inr (.inl rfl)) (by rw [byL_nil]; simp; omega)
      rw [show s.length + 2 = s.length + 1 + 1 from rfl, s1, s2]
      simp only [byL_and, byL_nil, List.nil_append, List.append_nil, Nat.sub_zero, List.drop_zero, e2, and_true]
      by_cases hz : n = 0
      · subst hz
        simp only [Nat.add_zero, if_true, e3]
        exact subGo_stay hf hs _ _ 1 (i + 1) false (by simp; omega) (by simp; omega)
      · simp only [hz, if_false]
        exact subGo_stay hf hs _ _ 1 (i + n) _ (by simp; omega) (by simp; omega)
    exact ⟨c', t, u, 1, a2, a3, a4, hu, by omega, .inr ⟨i, n, rfl, by omega, rfl⟩⟩
end Go.Proofs.Ytddichibegppjaa
