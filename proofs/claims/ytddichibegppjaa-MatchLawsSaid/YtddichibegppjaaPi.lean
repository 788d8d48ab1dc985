/- Where the five laws' trees match. Plain. -/
import Derived.Test.YtddichibegppjaaPh
set_option linter.unusedSimpArgs false
set_option linter.unusedVariables false
namespace Go.Proofs.Ytddichibegppjaa
open Go Go.VC
section
variable {t : List UInt8} {a b e : Re} {i j : Nat}
theorem mt_alt : Mt t (.node opAlt [] [a, b] 0 0) i j ↔ Mt t a i j ∨ Mt t b i j := by
  obtain ⟨n1, n2, n3, n4, n5, n6, n7, n8, n9, n10, n11, n12, n13, n14, n15⟩ := op_ne
  rw [Mt, if_neg (Ne.symm n4), if_neg (Ne.symm n8), if_neg (Ne.symm n11), if_neg (Ne.symm n13), if_pos rfl]
  simp only [MtAlt, or_false]
theorem mt_cat : Mt t (.node opCat [] [a, b] 0 0) i j ↔ ∃ m, Mt t a i m ∧ Mt t b m j := by
  obtain ⟨n1, n2, n3, n4, n5, n6, n7, n8, n9, n10, n11, n12, n13, n14, n15⟩ := op_ne
  rw [Mt, if_neg (Ne.symm n3), if_neg (Ne.symm n7), if_neg (Ne.symm n10), if_pos rfl]
  simp only [MtCat]
  constructor
  · rintro ⟨m, h1, m', h2, rfl⟩; exact ⟨m, h1, h2⟩
  · rintro ⟨m, h1, h2⟩; exact ⟨m, h1, j, h2, rfl⟩
theorem mt_rep {lo hi : Int} : Mt t (.node opRep [] [e] lo hi) i j ↔ ∃ n : Nat, lo ≤ n ∧ (hi < 0 ∨ (n : Int) ≤ hi) ∧ It (Mt t e) n i j := by
  obtain ⟨n1, n2, n3, n4, n5, n6, n7, n8, n9, n10, n11, n12, n13, n14, n15⟩ := op_ne
  rw [Mt, if_neg (Ne.symm n5), if_neg (Ne.symm n9), if_neg (Ne.symm n12), if_neg (Ne.symm n14), if_neg (Ne.symm n15), if_pos rfl]
  simp only [MtRep]
theorem mt_two : Mt t (.node opRep [] [e] 2 2) i j ↔ Mt t (.node opCat [] [e, e] 0 0) i j := by
  rw [mt_rep, mt_cat]
  constructor
  · rintro ⟨n, h1, h2, h3⟩
    obtain rfl : n = 2 := by omega
    obtain ⟨m, h4, m', h5, h6⟩ := h3
    cases h6
    exact ⟨m, h4, h5⟩
  · rintro ⟨m, h1, h2⟩
    exact ⟨2, by omega, .inr (by omega), m, h1, j, h2, rfl⟩
theorem mt_plus : Mt t (.node opRep [] [e] 1 (-1)) i j ↔ Mt t (.node opCat [] [e, .node opRep [] [e] 0 (-1)] 0 0) i j := by
  rw [mt_rep, mt_cat]
  constructor
  · rintro ⟨n, h1, _, h3⟩
    obtain ⟨n, rfl⟩ : ∃ k, n = k + 1 := ⟨n - 1, by omega⟩
    obtain ⟨m, h4, h5⟩ := h3
    exact ⟨m, h4, mt_rep.2 ⟨n, by omega, .inl (by omega), h5⟩⟩
  · rintro ⟨m, h1, h2⟩
    obtain ⟨n, _, _, h3⟩ := mt_rep.1 h2
    exact ⟨n + 1, by omega, .inl (by omega), m, h1, h3⟩
end
end Go.Proofs.Ytddichibegppjaa
