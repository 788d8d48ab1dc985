/- A job handed in is three texts, a flag and a number. -/
import Derived.Test.YtddichibegppjaaZ17e320e
import Derived.Test.YtddichibegppjaaLaw
import Derived.SizedLaws
import Derived.SliceStrings
set_option linter.unusedSimpArgs false
set_option linter.unusedVariables false
namespace Go.Proofs.Ytddichibegppjaa
open Go Go.VC Go.ChangeShapes Go.WideShapes Go.ChangeAt Go.RowKit Go.ChangeMaps
theorem row30 : (30 : Nat) < Try.prog.types.size ∧ Try.prog.readableRec 30 = true := ⟨of_decide_eq_true (by kernel_rfl), by kernel_rfl⟩
set_option maxRecDepth 100000 in
theorem job_in {H : Type} {enc : TypeId × Value → H} {W : World} {base : Nat} {v : Value} {d : DataW H} {p : List MemPlace} (hv : Value.okWide Try.prog W .any base 30 v)
    (h : DataW.Trod enc Try.prog W 0 (fun _ => true) true 30 v d p) : ∃ l r s all most, v = .agg (job l r s all most).toArray := by
  obtain ⟨n, hf⟩ := h
  obtain ⟨cs, rfl, hsz⟩ := okWide_struct Try.underlying30 hv
  have hC : Try.prog.cellsOf 30 = 5 := by kernel_rfl
  have h9 : Try.prog.cellsOf 9 = 1 := by kernel_rfl
  have h4 : Try.prog.cellsOf 4 = 1 := by kernel_rfl
  have h3 : Try.prog.cellsOf 3 = 1 := by kernel_rfl
  rw [hC] at hsz
  obtain ⟨cl⟩ := cs
  match cl, hsz with
  | [c0, c1, c2, c3, c4], _ =>
  obtain ⟨xs, m, _, _, hl, hlen, hf⟩ := DataW.trod_struct Try.underlying30 hf
  match xs, hlen with
  | [y0, y1, y2, y3, y4], _ =>
  have e0 : DataW.trod enc Try.prog W 0 (fun _ => true) true m 9 [c0] = some y0 := by simpa [Value.cells, h9] using hf 0 _ rfl
  have e1 : DataW.trod enc Try.prog W 0 (fun _ => true) true m 9 [c1] = some y1 := by simpa [Value.cells, h9] using hf 1 _ rfl
  have e2 : DataW.trod enc Try.prog W 0 (fun _ => true) true m 9 [c2] = some y2 := by simpa [Value.cells, h9] using hf 2 _ rfl
  have e3 : DataW.trod enc Try.prog W 0 (fun _ => true) true m 4 [c3] = some y3 := by simpa [Value.cells, h4] using hf 3 _ rfl
  have e4 : DataW.trod enc Try.prog W 0 (fun _ => true) true m 3 [c4] = some y4 := by simpa [Value.cells, h3] using hf 4 _ rfl
  obtain ⟨s0, g0, _⟩ := DataW.trod_string Try.underlying9 e0
  obtain ⟨s1, g1, _⟩ := DataW.trod_string Try.underlying9 e1
  obtain ⟨s2, g2, _⟩ := DataW.trod_string Try.underlying9 e2
  obtain ⟨b, g3, _⟩ := DataW.trod_bool Try.underlying4 e3
  obtain ⟨i, g4, _⟩ := DataW.trod_int Try.underlying3 e4
  injection g0 with g0; injection g1 with g1; injection g2 with g2; injection g3 with g3; injection g4 with g4
  subst g0; subst g1; subst g2; subst g3; subst g4
  refine ⟨s0.data.toList, s1.data.toList, s2.data.toList, b, i, ?_⟩
  simp only [job, B_of]
end Go.Proofs.Ytddichibegppjaa
