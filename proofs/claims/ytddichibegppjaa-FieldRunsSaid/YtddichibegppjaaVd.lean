/- Soundness of the calculus. -/
import Derived.Test.YtddichibegppjaaVc
set_option linter.unusedSimpArgs false
set_option linter.unusedVariables false
namespace Go.VC
open Go

theorem Addr.add_plain (b i j : Nat) : (⟨b, i, none⟩ : Addr).add j = ⟨b, i + j, none⟩ := by
  unfold Addr.add; split
  · rename_i h; subst h; rfl
  · rfl

theorem rdn_at {w : World} {b : Nat} : ∀ {n i : Nat} {vs : List Value}, rdn w b i n = some vs → vs.length = n ∧ ∀ j v, vs[j]? = some v → rdc w b (i + j) = some v
  | 0, i, vs, h => by simp [rdn] at h; subst h; simp
  | n + 1, i, vs, h => by
    simp only [rdn] at h
    cases h1 : rdc w b i with
    | none => simp [h1] at h
    | some v =>
      cases h2 : rdn w b (i + 1) n with
      | none => simp [h1, h2] at h
      | some us =>
        simp [h1, h2] at h
        subst h
        obtain ⟨hl, hc⟩ := rdn_at h2
        refine ⟨by simp [hl], fun j u hj => ?_⟩
        cases j with
        | zero => simp at hj; subst hj; simpa using h1
        | succ j => simp at hj; have := hc j u hj; rwa [show i + (j + 1) = i + 1 + j by omega]

theorem run_loadCells_rdn {P : Program} {w : World} {b i n : Nat} {vs : List Value} (h : rdn w b i n = some vs) : (loadCells ⟨b, i, none⟩ n).run P w = .ok vs.toArray w := by
  obtain ⟨hl, hc⟩ := rdn_at h
  subst hl
  exact run_loadCells_list w ⟨b, i, none⟩ vs fun j v hj => by rw [Addr.add_plain]; exact hc j v hj

theorem run_storeCells_wrn {P : Program} {b : Nat} : ∀ (vs : List Value) (i k : Nat) (w : World), (∀ v ∈ vs, v.oneCell' = true) → wrn w b (i + k) vs.length →
    (storeCells ⟨b, i, none⟩ vs k).run P w = .ok () (w.setCells b (i + k) vs)
  | [], i, k, w, _, _ => by simp [storeCells, World.setCells]
  | v :: vs, i, k, w, h1, hw => by
    simp only [List.length_cons, wrn] at hw
    obtain ⟨⟨hc, hf⟩, hr⟩ := hw
    unfold rdc at hc
    obtain ⟨u, hu⟩ := Option.isSome_iff_exists.1 hc
    have hst : (store ((⟨b, i, none⟩ : Addr).add k) v).run P w = .ok () (w.setCell ⟨b, i + k, none⟩ v) := by
      rw [run_store P w _ v _ (h1 v (by simp)), Addr.add_plain, hu]
      simp [hf]
    have keep : ∀ n j, wrn w b (i + k + 1 + j) n → wrn (w.setCell ⟨b, i + k, none⟩ v) b (i + k + 1 + j) n := by
      intro n
      induction n with
      | zero => intro j _; trivial
      | succ n ih =>
        intro j hh
        simp only [wrn] at hh ⊢
        refine ⟨⟨?_, ?_⟩, ?_⟩
        · unfold rdc
          rw [World.cell?_setCell_other]
          · exact hh.1.1
          · intro e; injection e with _ e2 _; omega
        · rw [World.frozen?_setCell]; exact hh.1.2
        · have := ih (j + 1) (by rw [show i + k + 1 + (j + 1) = i + k + 1 + j + 1 by omega]; exact hh.2)
          rwa [show i + k + 1 + (j + 1) = i + k + 1 + j + 1 by omega] at this
    have ih := run_storeCells_wrn (P := P) vs i (k + 1) (w.setCell ⟨b, i + k, none⟩ v) (fun u hu => h1 u (by simp [hu])) (by have := keep vs.length 0 (by simpa using hr); simpa [Nat.add_assoc] using this)
    simp only [storeCells, Sem.run_bind, hst, Result.andThen, ih, World.setCells, Nat.add_assoc]

end Go.VC
