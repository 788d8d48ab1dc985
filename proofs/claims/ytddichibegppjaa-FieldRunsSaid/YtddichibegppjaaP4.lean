/- Trees in memory. -/
import Derived.Test.YtddichibegppjaaP3
set_option linter.unusedSimpArgs false
set_option linter.unusedVariables false
namespace Go.Proofs.Ytddichibegppjaa
open Go Go.VC

mutual
/-- These five cells are a tree, whose nodes lie in blocks of a class. -/
def IsRe (w : World) (D : Nat → Prop) : Re → List Value → Prop
  | .node op set kids lo hi, cs => ∃ A c, cs = [.string (B op), .string (B set), .slice A kids.length c, .int .i64 lo, .int .i64 hi] ∧
      (kids = [] ∨ ∃ b o, A = some ⟨b, o, none⟩ ∧ D b ∧ IsKids w D b o kids)
def IsKids (w : World) (D : Nat → Prop) (b : Nat) : (o : Nat) → List Re → Prop
  | _, [] => True
  | o, k :: ks => (∃ cs, rdn w b o 5 = some cs ∧ IsRe w D k cs) ∧ IsKids w D b (o + 5) ks
end

mutual
theorem IsRe.keep {w w' : World} {D D' : Nat → Prop} (hd : ∀ b, D b → D' b) (hk : ∀ b, D b → ∀ i n vs, rdn w b i n = some vs → rdn w' b i n = some vs) : ∀ (e : Re) (cs : List Value), IsRe w D e cs → IsRe w' D' e cs
  | .node op set kids lo hi, cs, h => by
    simp only [IsRe] at h ⊢
    obtain ⟨A, c, h1, h2⟩ := h
    refine ⟨A, c, h1, ?_⟩
    rcases h2 with h2 | ⟨b, o, h3, h4, h5⟩
    · exact .inl h2
    · exact .inr ⟨b, o, h3, hd b h4, IsKids.keep hd hk b h4 kids o h5⟩
theorem IsKids.keep {w w' : World} {D D' : Nat → Prop} (hd : ∀ b, D b → D' b) (hk : ∀ b, D b → ∀ i n vs, rdn w b i n = some vs → rdn w' b i n = some vs) (b : Nat) (hb : D b) : ∀ (ks : List Re) (o : Nat), IsKids w D b o ks → IsKids w' D' b o ks
  | [], _, _ => by simp only [IsKids]
  | k :: ks, o, h => by
    simp only [IsKids] at h ⊢
    obtain ⟨⟨cs, h1, h2⟩, h3⟩ := h
    exact ⟨⟨cs, hk b hb _ _ _ h1, IsRe.keep hd hk k cs h2⟩, IsKids.keep hd hk b hb ks (o + 5) h3⟩
end

theorem rdc_lt {w : World} {b i : Nat} {v : Value} (h : rdc w b i = some v) : b < w.heap.size := by
  unfold rdc World.cell? at h
  split at h
  · rename_i hb; exact (Array.getElem?_eq_some_iff.1 hb).1
  · cases h
theorem rdn_kp {S : Nat → Prop} {w w' : World} (hk : Kp S w w') {b : Nat} (hs : ¬ S b) : ∀ (n i : Nat) (vs : List Value), rdn w b i n = some vs → rdn w' b i n = some vs
  | 0, _, _, h => h
  | n + 1, i, vs, h => by
    unfold rdn at h ⊢
    cases h1 : rdc w b i with
    | none => simp [h1] at h
    | some v =>
      cases h2 : rdn w b (i + 1) n with
      | none => simp [h1, h2] at h
      | some us =>
        rw [hk.rdc (rdc_lt h1) hs, h1, rdn_kp hk hs n (i + 1) us h2]
        simpa [h1, h2] using h
theorem IsRe.Kp {S D D' : Nat → Prop} {w w' : World} {e : Re} {cs : List Value} (h : IsRe w D e cs) (hk : VC.Kp S w w') (hs : ∀ b, D b → ¬ S b) (hd : ∀ b, D b → D' b) : IsRe w' D' e cs :=
  IsRe.keep hd (fun b hb i n vs hr => rdn_kp hk (hs b hb) n i vs hr) e cs h
end Go.Proofs.Ytddichibegppjaa
