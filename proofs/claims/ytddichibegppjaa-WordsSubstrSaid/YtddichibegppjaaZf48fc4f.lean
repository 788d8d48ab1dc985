/- WordsSubstr: the row. -/
import Derived.Test.YtddichibegppjaaZa3e212c
import Derived.Test.YtddichibegppjaaLaw
import Derived.SizedLaws
import Derived.SliceStrings
set_option linter.unusedSimpArgs false
set_option linter.unusedVariables false
namespace Go.Proofs.Ytddichibegppjaa
open Go Go.VC Go.ChangeShapes Go.WideShapes Go.ChangeAt Go.RowKit Go.ChangeMaps

theorem Try.own : ownKnob Try.prog.godebug = none := by kernel_rfl
theorem Try.laidOut : laidOutB Try.prog = true := by kernel_rfl
theorem row9 : (9 : Nat) < Try.prog.types.size ∧ Try.prog.readableRec 9 = true := ⟨of_decide_eq_true (by kernel_rfl), by kernel_rfl⟩
theorem row23 : (23 : Nat) < Try.prog.types.size ∧ Try.prog.readableRec 23 = true := ⟨of_decide_eq_true (by kernel_rfl), by kernel_rfl⟩
theorem row4 : (4 : Nat) < Try.prog.types.size ∧ Try.prog.readableRec 4 = true := ⟨of_decide_eq_true (by kernel_rfl), by kernel_rfl⟩
set_option maxRecDepth 100000 in
theorem two_in {H : Type} {enc : TypeId × Value → H} {W : World} {base : Nat} {v : Value} {d : DataW H} {p : List MemPlace} (hv : Value.okWide Try.prog W .any base 23 v)
    (h : DataW.Trod enc Try.prog W 0 (fun _ => true) true 23 v d p) : ∃ x y, v = .agg #[.int .u64 x, .int .u64 y] := by
  obtain ⟨n, hf⟩ := h
  have hU : Try.prog.underlying 23 = some (.array 2 22) := by kernel_rfl
  have hV : Try.prog.underlying 22 = some (.int .u64) := by kernel_rfl
  have hC : Try.prog.cellsOf 23 = 2 := by kernel_rfl
  have h1 : Try.prog.cellsOf 22 = 1 := by kernel_rfl
  obtain ⟨cs, rfl, hsz⟩ : ∃ cs, v = .agg cs ∧ cs.size = Try.prog.cellsOf 23 := by
    simp only [Value.okWide, hU] at hv
    obtain ⟨cs, h1, h2, _⟩ := hv
    exact ⟨cs, h1, h2⟩
  rw [hC] at hsz
  obtain ⟨cl⟩ := cs
  match cl, hsz with
  | [c0, c1], _ =>
  obtain ⟨xs, m, _, _, hl, hlen, hf⟩ := DataW.trod_array hU hf
  match xs, hlen with
  | [y0, y1], _ =>
  have e0 : DataW.trod enc Try.prog W 0 (fun _ => true) true m 22 [c0] = some y0 := by simpa [Value.cells, h1] using hf 0 (by omega)
  have e1 : DataW.trod enc Try.prog W 0 (fun _ => true) true m 22 [c1] = some y1 := by simpa [Value.cells, h1] using hf 1 (by omega)
  obtain ⟨a, g0, _⟩ := DataW.trod_int hV e0
  obtain ⟨b, g1, _⟩ := DataW.trod_int hV e1
  injection g0 with g0; injection g1 with g1
  subst g0; subst g1
  exact ⟨a, b, rfl⟩

set_option maxRecDepth 100000 in
theorem wordsSubstr_lifted (os : Os) (started : os.Started) (H : Type) (enc : TypeId × Value → H) :
    ReturnsInHanded {} Try.checked os 3 .any (Rows.wordsSubstrSpec.pre6 enc Try.prog Try.f3 Rows.wordsSubstrRow.domain false) (Rows.wordsSubstrSpec.post enc Try.prog Try.f3 false true false false) := by
  refine returnsInHanded_of_change (C := Try.checked) Try.own started (by kernel_rfl) Try.func3
    (ChangeSpec.witness6 (enc := enc) (C := Try.checked) false ⟨#[], #[.string ⟨#[]⟩, .agg #[.int .u64 0, .int .u64 0], .bool false], []⟩ 8 (by kernel_rfl) (by kernel_rfl) (by kernel_rfl) (by kernel_rfl)) ?_
  intro W base args ds gs before hval0 hW hcnd _
  have hval : ∀ (j : Nat) t v, Try.f3.params[j]? = some t → args[j]? = some v → Value.okWide Try.prog W .any base t v := hval0
  have hW' := hW
  obtain ⟨p, q, hA0, hV, rfl, hfz, hnd⟩ := hW
  have hA : DataW.TrodAll enc Try.prog W 0 (fun _ => true) true Try.f3.params.toList args.toList ds p := hA0
  rw [Try.params3] at hA hval
  obtain ⟨v0, v1, v2, d0, d1, d2, p0, p1, p2, rfl, rfl, _, h0, h1, h2⟩ := trodAll_three hA
  obtain ⟨s, rfl, rfl, _, hs⟩ := open_string Try.underlying9 (hval 0 9 v0 rfl rfl) h0
  obtain ⟨x, y, rfl⟩ := two_in (hval 1 23 v1 rfl rfl) h1
  obtain ⟨b, rfl⟩ := okWide_bool Try.underlying4 (hval 2 4 v2 rfl rfl)
  have hany := wordsSubstr_any W s.data.toList x y b
  rw [B_of] at hany
  refine hany.mono fun e W' ⟨he, hk⟩ => ?_
  subst he
  exact ⟨_, rfl, law_post Try.laidOut rfl hW' (by rw [Try.params3]; intro t ht; simp at ht; rcases ht with rfl | rfl | rfl; exact row9; exact row23; exact row4) rfl Try.underlying4 (fun ds h => by
    match ds, h with
    | [d, d', d''], _ => rfl) hk⟩

theorem wordsSubstr_holds : Rows.WordsSubstrSaid :=
  OpenClaim.holds_of_wide 3 Try.f3 rfl rfl rfl rfl rfl rfl rfl ⟨rfl, rfl, rfl, rfl, rfl⟩ rfl rfl rfl rfl rfl (by kernel_rfl) Try.func3 (by kernel_rfl)
    (of_decide_eq_true (by kernel_rfl)) (by unfold Func.isWrapper; first | (rw [if_pos (by decide +kernel)]; kernel_rfl) | (rw [if_neg (by decide +kernel)]; exact ⟨rfl, rfl⟩))
    (fun os started H enc _ => wordsSubstr_lifted os started H enc)
end Go.Proofs.Ytddichibegppjaa
