/- FieldBack: the row. -/
import Derived.Test.YtddichibegppjaaF7
import Derived.Test.YtddichibegppjaaLaw
import Derived.SizedLaws
import Derived.SliceStrings
set_option linter.unusedSimpArgs false
set_option linter.unusedVariables false
namespace Go.Proofs.Ytddichibegppjaa
open Go Go.VC Go.ChangeShapes Go.WideShapes Go.ChangeAt Go.RowKit Go.ChangeMaps

theorem Try.own : ownKnob Try.prog.godebug = none := by kernel_rfl
theorem Try.laidOut : laidOutB Try.prog = true := by kernel_rfl
theorem row54 : (54 : Nat) < Try.prog.types.size ∧ Try.prog.readableRec 54 = true := ⟨of_decide_eq_true (by kernel_rfl), by kernel_rfl⟩
theorem row5 : (5 : Nat) < Try.prog.types.size ∧ Try.prog.readableRec 5 = true := ⟨of_decide_eq_true (by kernel_rfl), by kernel_rfl⟩

set_option maxRecDepth 100000 in
theorem strings_in {H : Type} {enc : TypeId × Value → H} {W : World} {base : Nat} {v : Value} {d : DataW H} {p : List MemPlace} (hv : Value.okWide Try.prog W .any base 54 v)
    (h : DataW.Trod enc Try.prog W 0 (fun _ => true) true 54 v d p) : ∃ A cap l, v = .slice A (l : List (List UInt8)).length cap ∧ Txt W A l ∧ ∀ y ∈ l, y.length ∈ d.weights Try.prog 54 := by
  obtain ⟨n, hn⟩ := h
  obtain ⟨A, len, cap, rfl⟩ := okWide_slice Try.underlying54 hv
  have hc : (Value.slice A len cap).cells.toList = [.slice A len cap] := rfl
  rw [hc] at hn
  rcases open_strings Try.underlying54 Try.underlying9 (by kernel_rfl) hn with ⟨h1, _⟩ | ⟨a, len', cap', ss, h1, _, h2, h3, h4, hx, h5, h6⟩
  · injection h1 with h1
    injection h1 with h1 h2 h3
    subst h1; subst h2; subst h3
    exact ⟨none, 0, [], rfl, .inl rfl, by simp⟩
  · injection h1 with h1
    injection h1 with h1 h7 h8
    subst h1; subst h7; subst h8
    simp only [if_true] at h4
    refine ⟨some a, cap, (ss.take len).map (·.data.toList), by simp [h4]; omega, ?_, ?_⟩
    · rcases Nat.eq_zero_or_pos len with h0 | h0
      · left; simp [h0]
      · right
        have hc0 := h5 0 (by omega)
        obtain ⟨b, o, sp⟩ := a
        have hsp : sp = none := by
          cases sp with
          | none => rfl
          | some q => simp [World.cell?, Addr.add] at hc0; split at hc0 <;> simp_all
        subst hsp
        refine ⟨b, o, rfl, ?_, fun j x hj => ?_⟩
        · rw [Addr.add_plain] at hc0
          unfold World.cell? at hc0
          split at hc0
          · rename_i hb; exact (Array.getElem?_eq_some_iff.1 hb).1
          · cases hc0
        · rw [List.getElem?_map] at hj
          obtain ⟨y, hy, rfl⟩ := Option.map_eq_some_iff.1 hj
          rw [List.getElem?_take] at hy
          split at hy
          · have := h5 j (List.getElem?_eq_some_iff.1 hy).1
            rw [Addr.add_plain, List.getD_eq_getElem?_getD, hy] at this
            rw [B_of]
            exact this
          · cases hy
    · intro y hy
      obtain ⟨s, hs, rfl⟩ := List.mem_map.1 hy
      have hd : d = .slice (strs (ss.take len)) (strs (ss.drop len)) := congrArg Prod.fst hx
      rw [hd]
      have hw : ∀ (r : List ByteArray), s ∈ r → s.data.toList.length ∈ DataW.weightsAll (H := H) Try.prog 9 (strs r) := by
        intro r
        induction r with
        | nil => intro h; cases h
        | cons y r ih =>
          intro h
          simp only [strs, List.map_cons, DataW.weightsAll, DataW.weights, List.mem_append, List.mem_singleton]
          rcases List.mem_cons.1 h with rfl | h
          · exact .inl rfl
          · exact .inr (ih h)
      simp only [DataW.weights, Try.underlying54, List.mem_cons, List.mem_append]
      exact .inr (.inl (hw _ hs))

set_option maxRecDepth 100000 in
theorem fieldBack_lifted (os : Os) (started : os.Started) (H : Type) (enc : TypeId × Value → H) :
    ReturnsInHanded {} Try.checked os 12 .any (Rows.fieldBackSpec.pre6 enc Try.prog Try.f12 Rows.fieldBackRow.domain false) (Rows.fieldBackSpec.post enc Try.prog Try.f12 false true false false) := by
  refine returnsInHanded_of_change_sized (C := Try.checked) Try.own started (by kernel_rfl) Try.func12
    (ChangeSpec.witness6 (enc := enc) (C := Try.checked) false ⟨#[], #[.slice none 0 0, .int .u8 0], []⟩ 8 (by kernel_rfl) (by kernel_rfl) (by kernel_rfl) (by kernel_rfl)) ?_
  intro W base args ds gs before hval0 hW hcnd hsz _
  have hval : ∀ (j : Nat) t v, Try.f12.params[j]? = some t → args[j]? = some v → Value.okWide Try.prog W .any base t v := hval0
  have hW' := hW
  obtain ⟨p, q, hA0, hV, rfl, hfz, hnd⟩ := hW
  have hA : DataW.TrodAll enc Try.prog W 0 (fun _ => true) true Try.f12.params.toList args.toList ds p := hA0
  rw [Try.params12] at hA hval
  obtain ⟨v0, v1, d0, d1, p0, p1, rfl, rfl, rfl, h0, h1⟩ := trodAll_two hA
  obtain ⟨A, cap, l, rfl, hx, hb⟩ := strings_in (hval 0 54 v0 rfl rfl) h0
  obtain ⟨a, rfl, rfl, rfl, wa⟩ := open_int Try.underlying5 (hval 1 5 v1 rfl rfl) h1
  have wa' : 0 ≤ a ∧ a ≤ 255 := by
    simp [Lit.wf, IntKind.min, IntKind.max, IntKind.bits, IntKind.signed] at wa
    omega
  have ha : Value.int .u8 a = by8 (UInt8.ofNat a.toNat) := by
    unfold by8
    congr 1
    simp
    omega
  have hany := fieldBack_any (cap := cap) (c0 := UInt8.ofNat a.toNat) hx (fun y hy => by
    have h1 := List.all_eq_true.1 hsz _ (DataW.weights_mem_each (j := 0) (t := 54) (d := d0) rfl rfl _ (hb y hy))
    have h2 := reachBytes_lt
    simp only [decide_eq_true_eq] at h1
    omega)
  rw [← ha] at hany
  refine hany.mono fun e W' ⟨he, hk⟩ => ?_
  subst he
  exact ⟨_, rfl, law_post Try.laidOut rfl hW' (by rw [Try.params12]; intro t ht; simp at ht; rcases ht with rfl | rfl; exact row54; exact row5) rfl Try.underlying4 (fun ds h => by
    match ds, h with
    | [d, d'], _ => rfl) hk⟩

theorem fieldBack_holds : Rows.FieldBackSaid :=
  OpenClaim.holds_of_wide 12 Try.f12 rfl rfl rfl rfl rfl rfl rfl ⟨rfl, rfl, rfl, rfl, rfl⟩ rfl rfl rfl rfl rfl (by kernel_rfl) Try.func12 (by kernel_rfl)
    (of_decide_eq_true (by kernel_rfl)) (by unfold Func.isWrapper; first | (rw [if_pos (by decide +kernel)]; kernel_rfl) | (rw [if_neg (by decide +kernel)]; exact ⟨rfl, rfl⟩))
    (fun os started H enc _ => fieldBack_lifted os started H enc)
end Go.Proofs.Ytddichibegppjaa
