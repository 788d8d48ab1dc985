/- Acts handed in are numbers and texts that lie one behind the other. -/
import Derived.Test.YtddichibegppjaaZ2947124
import Derived.Test.YtddichibegppjaaZfc1ae4c
import Derived.Deep.Slices
set_option linter.unusedSimpArgs false
set_option linter.unusedVariables false
namespace Go.Proofs.Ytddichibegppjaa
open Go Go.VC Go.ChangeShapes Go.WideShapes Go.ChangeAt Go.RowKit Go.ChangeMaps
set_option maxRecDepth 100000 in
theorem act_in {H : Type} {enc : TypeId × Value → H} {W : World} {n : Nat} {cl : List Value} {y : DataW H × List MemPlace}
    (hf : DataW.trod enc Try.prog W 0 (fun _ => true) true n 72 cl = some y) : ∃ a : Act, cl = a.cells ∧ a.ok := by
  have hC : Try.prog.cellsOf 72 = 4 := by kernel_rfl
  have h9 : Try.prog.cellsOf 9 = 1 := by kernel_rfl
  have h3 : Try.prog.cellsOf 3 = 1 := by kernel_rfl
  obtain ⟨xs, m, _, _, hl, hlen, hf⟩ := DataW.trod_struct Try.underlying72 hf
  rw [hC] at hl
  match cl, hl with
  | [c0, c1, c2, c3], _ =>
  match xs, hlen with
  | [y0, y1, y2, y3], _ =>
  have e0 : DataW.trod enc Try.prog W 0 (fun _ => true) true m 3 [c0] = some y0 := by simpa [h3] using hf 0 _ rfl
  have e1 : DataW.trod enc Try.prog W 0 (fun _ => true) true m 3 [c1] = some y1 := by simpa [h3] using hf 1 _ rfl
  have e2 : DataW.trod enc Try.prog W 0 (fun _ => true) true m 9 [c2] = some y2 := by simpa [h9] using hf 2 _ rfl
  have e3 : DataW.trod enc Try.prog W 0 (fun _ => true) true m 9 [c3] = some y3 := by simpa [h9] using hf 3 _ rfl
  obtain ⟨i0, g0, _, w0⟩ := DataW.trod_int Try.underlying3 e0
  obtain ⟨i1, g1, _, w1⟩ := DataW.trod_int Try.underlying3 e1
  obtain ⟨s2, g2, _⟩ := DataW.trod_string Try.underlying9 e2
  obtain ⟨s3, g3, _⟩ := DataW.trod_string Try.underlying9 e3
  injection g0 with g0; injection g1 with g1; injection g2 with g2; injection g3 with g3
  subst g0; subst g1; subst g2; subst g3
  refine ⟨⟨i0, i1, s2.data.toList, s3.data.toList⟩, ?_, ?_⟩
  · simp only [Act.cells, B_of]
  · simp [Lit.wf, IntKind.min, IntKind.max, IntKind.bits, IntKind.signed] at w0 w1
    exact ⟨by simp; omega, by simp; omega⟩

set_option maxRecDepth 100000 in
theorem acts_in {H : Type} {enc : TypeId × Value → H} {W : World} {base : Nat} {v : Value} {d : DataW H} {p : List MemPlace} (hv : Value.okWide Try.prog W .any base 67 v)
    (h : DataW.Trod enc Try.prog W 0 (fun _ => true) true 67 v d p) : ∃ A cap l, v = .slice A (l : List Act).length cap ∧ Acts W A l ∧ l.length ≤ maxLen := by
  obtain ⟨n, hn⟩ := h
  obtain ⟨A, len, cap, rfl⟩ := okWide_slice Try.underlying67 hv
  have hc : (Value.slice A len cap).cells.toList = [.slice A len cap] := rfl
  rw [hc] at hn
  have hC : Try.prog.cellsOf 72 = 4 := by kernel_rfl
  rcases Deep.open_slice Try.underlying67 hn with ⟨h1, _⟩ | ⟨a, len', cap', m, n', D, Pl, h1, _, h2, h3, hm, _, hel⟩
  · injection h1 with h1
    injection h1 with h1 h2 h3
    subst h1; subst h2; subst h3
    exact ⟨none, 0, [], rfl, .inl rfl, by simp⟩
  · injection h1 with h1
    injection h1 with h1 h7 h8
    subst h1; subst h7; subst h8
    simp only [if_true] at hm
    subst hm
    have hex : ∀ i, i < len → ∃ a' : Act, W.cells? 0 (a.add (i * 4)) 4 = some a'.cells ∧ a'.ok := fun i hi => by
      obtain ⟨cs', e1, e2⟩ := hel i (by omega)
      rw [hC] at e1
      obtain ⟨a', rfl, ha⟩ := act_in e2
      exact ⟨a', e1, ha⟩
    haveI : Inhabited Act := ⟨⟨0, 0, [], []⟩⟩
    obtain ⟨f, hf⟩ := Deep.choose_lt hex
    refine ⟨some a, m, (List.range len).map f, by simp only [List.length_map, List.length_range], ?_, by simp; omega⟩
    rcases Nat.eq_zero_or_pos len with h0 | h0
    · left; simp [h0]
    right
    have hc0 := (World.cells?_some (hf 0 h0).1).2.2 0 (by omega)
    obtain ⟨b, o, sp⟩ := a
    rw [Deep.add_add] at hc0
    have hsp : sp = none := by
      cases sp with
      | none => rfl
      | some q => simp [World.cell?, Addr.add, Act.cells] at hc0; split at hc0 <;> simp_all
    subst hsp
    refine ⟨b, o, rfl, ?_, fun j x hj => ?_⟩
    · rw [Addr.add_plain] at hc0
      unfold World.cell? at hc0
      split at hc0
      · rename_i hb; exact (Array.getElem?_eq_some_iff.1 hb).1
      · cases hc0
    · rw [List.getElem?_map] at hj
      obtain ⟨i, hi, rfl⟩ := Option.map_eq_some_iff.1 hj
      have hjl : j < len := by have := (List.getElem?_eq_some_iff.1 hi).1; simpa using this
      rw [List.getElem?_range hjl] at hi
      injection hi with hi
      subst hi
      refine ⟨rdn_of 4 _ _ rfl (fun i hi => ?_), (hf j hjl).2⟩
      have := (World.cells?_some (hf j hjl).1).2.2 i hi
      rw [Deep.add_add, Addr.add_plain, ← Nat.add_assoc] at this
      exact this
end Go.Proofs.Ytddichibegppjaa
