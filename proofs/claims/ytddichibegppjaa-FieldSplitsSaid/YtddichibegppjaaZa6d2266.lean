/- FieldSplits: the row. -/
import Derived.Test.YtddichibegppjaaZcb8d1db
import Derived.Test.YtddichibegppjaaZfc1ae4c
set_option linter.unusedSimpArgs false
set_option linter.unusedVariables false
namespace Go.Proofs.Ytddichibegppjaa
open Go Go.VC Go.ChangeShapes Go.WideShapes Go.ChangeAt Go.RowKit Go.ChangeMaps

theorem Try.own : ownKnob Try.prog.godebug = none := by kernel_rfl
theorem Try.laidOut : laidOutB Try.prog = true := by kernel_rfl
theorem row9 : (9 : Nat) < Try.prog.types.size ∧ Try.prog.readableRec 9 = true := ⟨of_decide_eq_true (by kernel_rfl), by kernel_rfl⟩
theorem row4 : (4 : Nat) < Try.prog.types.size ∧ Try.prog.readableRec 4 = true := ⟨of_decide_eq_true (by kernel_rfl), by kernel_rfl⟩

set_option maxRecDepth 100000 in
theorem fieldSplits_lifted (os : Os) (started : os.Started) (H : Type) (enc : TypeId × Value → H) :
    ReturnsInHanded {} Try.checked os 11 .any (Rows.fieldSplitsSpec.pre6 enc Try.prog Try.f11 Rows.fieldSplitsRow.domain false) (Rows.fieldSplitsSpec.post enc Try.prog Try.f11 false true false false) := by
  refine returns_shaped (C := Try.checked) Try.own started (by kernel_rfl) Try.func11
    (ChangeSpec.witness6 (enc := enc) (C := Try.checked) false ⟨#[], #[.string ⟨#[]⟩, .string ⟨#[]⟩, .bool false], []⟩ 8 (by kernel_rfl) (by kernel_rfl) (by kernel_rfl) (by kernel_rfl)) ?_
  intro W base args ds gs before hsh hval0 hW hcnd
  have hval : ∀ (j : Nat) t v, Try.f11.params[j]? = some t → args[j]? = some v → Value.okWide Try.prog W .any base t v := hval0
  have hW' := hW
  obtain ⟨p, q, hA0, hV, rfl, hfz, hnd⟩ := hW
  have hA : DataW.TrodAll enc Try.prog W 0 (fun _ => true) true Try.f11.params.toList args.toList ds p := hA0
  rw [Try.params11] at hA hval
  obtain ⟨v0, v1, v2, d0, d1, d2, p0, p1, p2, rfl, rfl, _, h0, h1, h2⟩ := trodAll_three hA
  obtain ⟨s, rfl, rfl, _, hs⟩ := open_string Try.underlying9 (hval 0 9 v0 rfl rfl) h0
  obtain ⟨t, rfl, rfl, _, ht⟩ := open_string Try.underlying9 (hval 1 9 v1 rfl rfl) h1
  obtain ⟨b, rfl, rfl, _⟩ := open_bool Try.underlying4 (hval 2 4 v2 rfl rfl) h2
  have hany := fieldSplits_any W (maxL_of hsh) s.data.toList t.data.toList b
  rw [B_of, B_of] at hany
  refine hany.mono fun e W' ⟨he, hk⟩ => ?_
  subst he
  exact ⟨_, rfl, law_post Try.laidOut rfl hW' (by rw [Try.params11]; intro t ht; simp at ht; rcases ht with rfl | rfl; exact row9; exact row4) rfl Try.underlying4 (fun ds h => by
    match ds, h with
    | [d, d', d''], _ => rfl) hk⟩

theorem fieldSplits_holds : Rows.FieldSplitsSaid :=
  OpenClaim.holds_of_wide 11 Try.f11 rfl rfl rfl rfl rfl rfl rfl ⟨rfl, rfl, rfl, rfl, rfl⟩ rfl rfl rfl rfl rfl (by kernel_rfl) Try.func11 (by kernel_rfl)
    (of_decide_eq_true (by kernel_rfl)) (by unfold Func.isWrapper; first | (rw [if_pos (by decide +kernel)]; kernel_rfl) | (rw [if_neg (by decide +kernel)]; exact ⟨rfl, rfl⟩))
    (fun os started H enc _ => fieldSplits_lifted os started H enc)
end Go.Proofs.Ytddichibegppjaa
