/- More rules of the calculus. -/
import Derived.Test.YtddichibegppjaaVn
set_option linter.unusedSimpArgs false
set_option linter.unusedVariables false
namespace Go.VC
open Go Go.RowKit

section
variable {P : Program} {w w' : World}
theorem Wp.cutQ {n : Nat} {ds : List Deferred} {x y : Code} {F : Fr} {Q : Exit → Fr → World → Prop} (M : Fr → World → Prop)
    (h : Wp P n ds x F w (thenQ (Mid M) Q)) (hy : ∀ F' w', Mid M .mk F' w' → Wp P n ds y F' w' Q) : Wp P n ds (.seq x y) F w Q := by
  refine Wp.seq (h.mono fun e F' w' hq => ?_)
  cases e <;> first | exact hy _ _ hq | exact hq
theorem Wp.here1 {n m : Nat} {ds : List Deferred} {a : Array Oper} {b : Bool} {c d : Code} {F : Fr} {Q : Exit → Fr → World → Prop} (h : Wp P m ds (.seq (.seq (.region n a b) c) d) F w Q) : Wp P m ds (.seq (.seq (.region n a b) c) d) F w Q := h
theorem Wp.here2 {n m : Nat} {ds : List Deferred} {a : Array Oper} {b : Bool} {d : Code} {F : Fr} {Q : Exit → Fr → World → Prop} (h : Wp P m ds (.seq (.region n a b) d) F w Q) : Wp P m ds (.seq (.region n a b) d) F w Q := h
theorem Wp.here3 {n m : Nat} {ds : List Deferred} {c d : Code} {F : Fr} {Q : Exit → Fr → World → Prop} (h : Wp P m ds (.seq (.block n c) d) F w Q) : Wp P m ds (.seq (.block n c) d) F w Q := h
theorem Mid.out {M : Fr → World → Prop} {F : Fr} {w : World} (h : Mid M .mk F w) : M F w := by unfold Mid at h; exact h
theorem Kp.setCells {S : Nat → Prop} {a w : World} (h : VC.Kp S a w) {b : Nat} (hb : b < a.heap.size → S b) : ∀ (vs : List Value) (i : Nat), VC.Kp S a (w.setCells b i vs)
  | [], i => h
  | v :: vs, i => by
    rw [setCells_cons]
    exact Kp.setCells (h.setCell (p := ⟨b, i, none⟩) hb v) hb vs (i + 1)
theorem Blk.farCells {g t b : Nat} {cs : List Value} (hb : g ≠ b) : ∀ (vs : List Value) (i : Nat) (w : World), Blk w g t cs → Blk (w.setCells b i vs) g t cs
  | [], i, w, h => h
  | v :: vs, i, w, h => by
    rw [setCells_cons]
    exact Blk.farCells hb vs (i + 1) _ (h.far (p := ⟨b, i, none⟩) hb v)
theorem rdn_of {b : Nat} : ∀ (n i : Nat) (vs : List Value), vs.length = n → (∀ j, j < n → VC.rdc w b (i + j) = vs[j]?) → rdn w b i n = some vs
  | 0, i, vs, hl, _ => by have : vs = [] := List.eq_nil_of_length_eq_zero hl; subst this; rfl
  | n + 1, i, [], hl, _ => by simp at hl
  | n + 1, i, v :: vs, hl, h => by
    have h0 := h 0 (by omega)
    have h1 := rdn_of n (i + 1) vs (by simpa using hl) (fun j hj => by have := h (j + 1) (by omega); rw [show i + 1 + j = i + (j + 1) by omega]; simpa using this)
    simp only [rdn]
    rw [show VC.rdc w b i = some v by simpa using h0, h1]
theorem Blk.rdn {g t : Nat} {cs : List Value} (h : Blk w g t cs) : VC.rdn w g 0 cs.length = some cs :=
  rdn_of _ _ _ rfl (fun j _ => by rw [Nat.zero_add]; exact h.rdc j)
theorem Blk.setCells {g t : Nat} : ∀ (vs : List Value) (cs : List Value) (w : World), Blk w g t cs → (i : Nat) → i + vs.length ≤ cs.length → Blk (w.setCells g i vs) g t (cs.take i ++ vs ++ cs.drop (i + vs.length))
  | [], cs, w, h, i, hi => by rw [setCells_nil]; simpa using h
  | v :: vs, cs, w, h, i, hi => by
    rw [setCells_cons]
    have := Blk.setCells vs _ _ (h.set i v) (i + 1) (by simp at hi ⊢; omega)
    refine cast (congrArg _ ?_) this
    simp at hi
    refine List.ext_getElem? fun j => ?_
    simp only [List.getElem?_append, List.length_append, List.length_take, List.length_set, List.length_cons, List.getElem?_take, List.getElem?_drop, List.getElem?_set]
    rw [Nat.min_eq_left (by omega), Nat.min_eq_left (by omega)]
    by_cases h1 : j < i
    · rw [if_pos (by omega), if_pos (by omega), if_pos (by omega), if_neg (by omega), if_pos (by omega), if_pos (by omega), if_pos (by omega)]
    · by_cases h2 : j = i
      · subst h2
        rw [if_pos (by omega), if_pos (by omega), if_pos (by omega), if_pos (by omega), if_pos (by omega), if_pos (by omega), if_neg (by omega), Nat.sub_self]
        simp
      · by_cases h3 : j < i + 1 + vs.length
        · rw [if_pos (by omega), if_neg (by omega), if_pos (by omega), if_neg (by omega)]
          rw [show j - i = (j - (i + 1)) + 1 by omega]
          simp
        · rw [if_neg (by omega), if_neg (by omega), if_neg (by omega)]
          congr 1
          omega
theorem Blk.setAll {g t : Nat} {cs vs : List Value} (h : Blk w g t cs) (hl : vs.length = cs.length) : Blk (w.setCells g 0 vs) g t vs := by
  have := Blk.setCells vs cs w h 0 (by omega)
  simpa [hl] using this
theorem post_cell {a t b i n : Nat} {vs : List Value} {F : Fr} {R : Ending → World → Prop} (hF : F a = .pointer (some ⟨b, i, none⟩)) (ht : tk P t = n + 2) (hr : VC.rdn w b i n = some vs) (h : R (.returned (.agg vs.toArray)) w) : post P [.cell a t] R .mk .ret F w := by
  have : resVs P w F [.cell a t] = some (.agg vs.toArray) := by
    simp only [resVs, resV, hF, ht, hr, Option.map_some]
  show (match resVs P w F [.cell a t] with | some v => Ret R v w | none => False)
  rw [this]
  exact Ret.mk h
end
end Go.VC
