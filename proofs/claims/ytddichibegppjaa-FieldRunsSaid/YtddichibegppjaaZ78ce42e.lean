/- FieldRuns: the row. -/
import Derived.Test.YtddichibegppjaaZ1400de2
set_option linter.unusedSimpArgs false
set_option linter.unusedVariables false
namespace Go.Proofs.Ytddichibegppjaa
open Go Go.VC Go.ChangeShapes Go.WideShapes Go.ChangeAt Go.RowKit Go.ChangeMaps

theorem Try.own : ownKnob Try.prog.godebug = none := by kernel_rfl
theorem Try.laidOut : laidOutB Try.prog = true := by kernel_rfl
theorem row9 : (9 : Nat) < Try.prog.types.size ∧ Try.prog.readableRec 9 = true := ⟨of_decide_eq_true (by kernel_rfl), by kernel_rfl⟩
theorem row67 : (67 : Nat) < Try.prog.types.size ∧ Try.prog.readableRec 67 = true := ⟨of_decide_eq_true (by kernel_rfl), by kernel_rfl⟩

set_option maxRecDepth 100000 in
theorem fieldRuns_lifted (os : Os) (started : os.Started) (H : Type) (enc : TypeId × Value → H) :
    ReturnsInHanded {} Try.checked os 14 .any (Rows.fieldRunsSpec.pre6 enc Try.prog Try.f14 Rows.fieldRunsRow.domain false) (Rows.fieldRunsSpec.post enc Try.prog Try.f14 false true false false) := by
  refine returns_shaped (C := Try.checked) Try.own started (by kernel_rfl) Try.func14
    (ChangeSpec.witness6 (enc := enc) (C := Try.checked) false ⟨#[], #[.string ⟨#[]⟩, .string ⟨#[]⟩, .slice none 0 0], []⟩ 8 (by kernel_rfl) (by kernel_rfl) (by kernel_rfl) (by kernel_rfl)) ?_
  intro W base args ds gs before hsh hval0 hW hcnd
  have hval : ∀ (j : Nat) t v, Try.f14.params[j]? = some t → args[j]? = some v → Value.okWide Try.prog W .any base t v := hval0
  have hW' := hW
  obtain ⟨p, q, hA0, hV, rfl, hfz, hnd⟩ := hW
  have hA : DataW.TrodAll enc Try.prog W 0 (fun _ => true) true Try.f14.params.toList args.toList ds p := hA0
  rw [Try.params14] at hA hval
  obtain ⟨v0, v1, v2, d0, d1, d2, p0, p1, p2, rfl, rfl, _, h0, h1, h2⟩ := trodAll_three hA
  obtain ⟨s, rfl, rfl, _, hs⟩ := open_string Try.underlying9 (hval 0 9 v0 rfl rfl) h0
  obtain ⟨t, rfl, rfl, _, ht⟩ := open_string Try.underlying9 (hval 1 9 v1 rfl rfl) h1
  obtain ⟨A, cap, l, rfl, hacts, hln⟩ := acts_in (hval 2 67 v2 rfl rfl) h2
  have hany := fieldRuns_any W (maxL_of hsh) s.data.toList t.data.toList A cap l hacts (by unfold maxLen at hln; omega)
  rw [B_of, B_of] at hany
  refine hany.mono fun e W' ⟨he, hk⟩ => ?_
  subst he
  exact ⟨_, rfl, law_post Try.laidOut rfl hW' (by rw [Try.params14]; intro t ht; simp at ht; rcases ht with rfl | rfl; exact row9; exact row67) rfl Try.underlying4 (fun ds h => by
    match ds, h with
    | [d, d', d''], _ => rfl) hk⟩

theorem fieldRuns_holds : Rows.FieldRunsSaid :=
  OpenClaim.holds_of_wide 14 Try.f14 rfl rfl rfl rfl rfl rfl rfl ⟨rfl, rfl, rfl, rfl, rfl⟩ rfl rfl rfl rfl rfl (by kernel_rfl) Try.func14 (by kernel_rfl)
    (of_decide_eq_true (by kernel_rfl)) (by unfold Func.isWrapper; first | (rw [if_pos (by decide +kernel)]; kernel_rfl) | (rw [if_neg (by decide +kernel)]; exact ⟨rfl, rfl⟩))
    (fun os started H enc _ => fieldRuns_lifted os started H enc)
end Go.Proofs.Ytddichibegppjaa
