/- What is read of a group, and of groups put together. -/
import Derived.Test.YtddichibegppjaaPf
set_option linter.unusedSimpArgs false
set_option linter.unusedVariables false
namespace Go.Proofs.Ytddichibegppjaa
open Go Go.VC

theorem parse_start {s : List UInt8} (hz : (parse3 s).2 = 0) : ∃ S, branches3 s (4 * s.length + 3) ⟨0, 0, 0⟩ = some ((parse3 s).1, S) ∧ S.f = 0 ∧ S.i = s.length ∧ S.d = 0 := by
  obtain ⟨⟨t, S⟩, hb⟩ := start_some s
  have hp : parse3 s = if S.f ≠ 0 then (Re.zero, S.f) else if S.i < s.length then (Re.zero, 1) else if size3 t > 2000 then (Re.zero, 5) else (t, 0) := by unfold parse3; rw [hb]
  rw [hp] at hz ⊢
  by_cases h1 : S.f ≠ 0
  · rw [if_pos h1] at hz; exact absurd hz h1
  rw [if_neg h1] at hz ⊢
  have hf : S.f = 0 := by simpa using h1
  by_cases h2 : S.i < s.length
  · rw [if_pos h2] at hz; cases hz
  rw [if_neg h2] at hz ⊢
  by_cases h3 : size3 t > 2000
  · rw [if_pos h3] at hz; cases hz
  rw [if_neg h3]
  obtain ⟨m, _⟩ := (reads_ok s (4 * s.length + 3)).2.2.2.2 _ _ _ (St3_start s) hb
  have := (m.2.2 hf).2.2
  exact ⟨S, hb, hf, by omega, m.1⟩
/-- A group. -/
theorem group_read {s l : List UInt8} {i k : Nat} {r : Re × S3} (h : Emb s l (i + 1)) (hc : byteAt l i = 40) (hz : (parse3 s).2 = 0) (hk : 4 * s.length + 3 ≤ k) (hr : atom3 l (k + 1) ⟨i, 0, 0⟩ = some r) (hf : r.2.f = 0) : r = ((parse3 s).1, ⟨i + s.length + 2, 0, 0⟩) := by
  have hlen := h.len
  obtain ⟨S, hb, sf, si, sd⟩ := parse_start hz
  have hb2 : branches3 s k ⟨0, 0, 0⟩ = some ((parse3 s).1, S) := by
    have := branches_more hb (k - (4 * s.length + 3))
    rwa [show 4 * s.length + 3 + (k - (4 * s.length + 3)) = k by omega] at this
  rw [atom3] at hr
  simp only [hc] at hr
  rw [if_pos (by rfl), if_neg (by decide)] at hr
  cases hq : branches3 l k ⟨i + 1, 0, 0 + 1⟩ with
  | none => rw [hq] at hr; cases hr
  | some z =>
    rw [hq] at hr
    obtain ⟨e, z1⟩ := z
    simp only at hr
    injection hr with hr
    have g1 : z1.f = 0 := by
      rw [← hr] at hf
      by_cases hc : (z1.f == 0 && decide ((z1.i : Int) ≥ (l.length : Int))) = true
      · rw [if_pos hc] at hf
        exact absurd hf (fail_ne (σ := { i := z1.i, f := z1.f, d := z1.d - 1 }) (by decide))
      · rw [if_neg hc] at hf; exact hf
    have := (loc_all (δ := 1) h k).2.2.2.2 ⟨0, 0, 0⟩ _ _ _ (St3_start s) rfl hb2 sf hq g1
    injection this with h1 h2
    subst h1; subst h2
    have e1 : (sh (i + 1) 1 S).i = i + 1 + S.i := rfl
    rw [show ((sh (i + 1) 1 S).f == 0 && decide (((sh (i + 1) 1 S).i : Int) ≥ (l.length : Int))) = false by rw [decide_eq_false (by rw [e1]; omega : ¬ ((sh (i + 1) 1 S).i : Int) ≥ (l.length : Int))]; simp] at hr
    rw [← hr]
    simp only [Bool.false_eq_true, if_false, S3.on, sh, Prod.mk.injEq, S3.mk.injEq, true_and]
    rw [sf, si, sd]
    refine ⟨by omega, rfl, by decide⟩
theorem no_rep {l : List UInt8} {σ : S3} (h : σ.i < l.length → byteAt l σ.i ≠ 42 ∧ byteAt l σ.i ≠ 43 ∧ byteAt l σ.i ≠ 63 ∧ byteAt l σ.i ≠ 123) (hf : σ.f = 0) : repeat3 l σ = ((0, 0, false), σ) := by
  unfold repeat3
  rw [mr hf]
  rcases Nat.lt_or_ge σ.i l.length with h1 | h1
  · obtain ⟨a, b, c, d⟩ := h h1
    rw [decide_eq_true h1, if_neg (by decide), if_neg (by simpa using a), if_neg (by simpa using b), if_neg (by simpa using c), if_neg (by simpa using d)]
  · rw [decide_eq_false (by omega), if_pos (by rfl)]
/-- A group that stands next in a branch. -/
theorem piece_group {s l : List UInt8} {i k : Nat} {acc : List Re} {R : Option (List Re) × S3} (h : Emb s l (i + 1)) (hc : byteAt l i = 40) (hz : (parse3 s).2 = 0) (hk : 4 * s.length + 3 ≤ k) (hr : piece3 l (k + 2) acc ⟨i, 0, 0⟩ = some R) (hf : R.2.f = 0) :
    ∃ e' τ, reps3 l (l.length + 2) (parse3 s).1 ⟨i + s.length + 2, 0, 0⟩ = some (e', τ) ∧ τ.f = 0 ∧ piece3 l (k + 1) (acc ++ [e']) τ = some R := by
  have hlen := h.len
  rw [piece3, mr rfl] at hr
  simp only [hc] at hr
  rw [if_pos (by rw [decide_eq_true (by omega : i < l.length)]; rfl)] at hr
  rw [no_rep (σ := ⟨i, 0, 0⟩) (fun _ => by show byteAt l i ≠ 42 ∧ _; rw [hc]; decide) rfl] at hr
  simp only [Bool.false_eq_true, if_false] at hr
  rw [if_neg (by simp)] at hr
  cases hq : atom3 l (k + 1) ⟨i, 0, 0⟩ with
  | none => rw [hq] at hr; cases hr
  | some z =>
    rw [hq] at hr
    obtain ⟨e, z1⟩ := z
    simp only at hr
    cases hz2 : reps3 l (l.length + 2) e z1 with
    | none => rw [hz2] at hr; cases hr
    | some y =>
      obtain ⟨e', τ⟩ := y
      rw [hz2] at hr
      simp only at hr
      have f1 : τ.f = 0 := piece_no hr hf
      have f2 : z1.f = 0 := reps_no hz2 f1
      have := group_read h hc hz hk hq f2
      injection this with h1 h2
      subst h1; subst h2
      exact ⟨e', τ, hz2, f1, hr⟩
theorem reps_stop {l : List UInt8} {k : Nat} {e e' : Re} {σ τ : S3} (hf : σ.f = 0) (h : repeat3 l σ = ((0, 0, false), σ)) (hr : reps3 l k e σ = some (e', τ)) : e' = e ∧ τ = σ := by
  cases k with
  | zero => simp [reps3] at hr
  | succ k =>
    simp only [reps3, h] at hr
    rw [if_neg (by rw [hf]; simp), if_pos (by rfl)] at hr
    injection hr with hr; injection hr with h1 h2
    exact ⟨h1.symm, h2.symm⟩
theorem reps_go {l : List UInt8} {k : Nat} {e e' : Re} {σ τ σ2 : S3} {lo hi : Int} (hf : σ.f = 0) (h : repeat3 l σ = ((lo, hi, true), σ2)) (hr : reps3 l k e σ = some (e', τ)) : ∃ k', reps3 l k' (.node opRep [] [e] lo hi) σ2 = some (e', τ) := by
  cases k with
  | zero => simp [reps3] at hr
  | succ k =>
    simp only [reps3, h] at hr
    rw [if_neg (by rw [hf]; simp), if_neg (by simp)] at hr
    exact ⟨k, hr⟩
theorem piece_stop {l : List UInt8} {k : Nat} {acc : List Re} {σ : S3} {R : Option (List Re) × S3} (h : σ.f = 0) (hs : σ.i < l.length → byteAt l σ.i = 124) (hr : piece3 l k acc σ = some R) : R = (some acc, σ) := by
  cases k with
  | zero => simp [piece3] at hr
  | succ k =>
    rw [piece3, mr h] at hr
    rw [if_neg (by
      intro hc
      simp only [Bool.and_eq_true, decide_eq_true_eq] at hc
      have := hs hc.1.1
      rw [this] at hc
      exact absurd hc.1.2 (by decide))] at hr
    injection hr with hr; exact hr.symm
end Go.Proofs.Ytddichibegppjaa
