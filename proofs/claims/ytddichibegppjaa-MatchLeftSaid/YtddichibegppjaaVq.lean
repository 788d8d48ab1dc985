/- Regions whose operations are shown one by one; calls of functions without a body. -/
import Derived.Test.YtddichibegppjaaVo
import Derived.Laws.Externs
set_option linter.unusedSimpArgs false
set_option linter.unusedVariables false
namespace Go.VC
open Go Go.RowKit

def exO (P : Program) (all : List Oper) : (l : List Oper) → Fr → World → (K : Fr → World → Prop) → (X : Fr → List PanicEntry → World → Prop) → (_ : Tok (all, l, K, X) := .mk) → Prop
  | [], F, w, K, _, _ => K F w
  | o :: rest, F, w, K, X, _ => match o.guard with
    | none => OpV P o F w (fun v w' => exO P all rest (put F o.dst v) w' K X) (X F)
    | some (j, want) => match gv all j F with
      | .bool b => gsel b want (OpV P o F w (fun v w' => exO P all rest (put F o.dst v) w' K X) (X F)) (exO P all rest (put F o.dst undef) w K X)
      | .tuple _ => exO P all rest (put F o.dst undef) w K X
      | _ => False
theorem exO_sound {P : Program} {n : Nat} {ds : List Deferred} {all : List Oper} {Q : Exit → Act → World → Prop} (hall : ∀ o ∈ all, dok n o.dst) : ∀ (l : List Oper) (_ : ∀ o ∈ l, dok n o.dst) (F : Fr) (w : World) (a : Act) (K : Fr → World → Prop) (X : Fr → List PanicEntry → World → Prop),
    exO P all l F w K X → Rep n ds F a → (∀ F' a' w', K F' w' → Rep n ds F' a' → Q .normal a' w') → (∀ F' a' ch w', X F' ch w' → Rep n ds F' a' → Q (.panic ch) a' w') → wpList P all.toArray Q l a w
  | [], _, F, w, a, K, X, h, hr, hK, _ => hK _ _ _ h hr
  | o :: rest, hl, F, w, a, K, X, h, hr, hK, hX => by
    have hd := hl o (by simp)
    have hrest : ∀ o ∈ rest, dok n o.dst := fun o ho => hl o (by simp [ho])
    unfold exO at h
    have step : OpV P o F w (fun v w' => exO P all rest (put F o.dst v) w' K X) (X F) → o.wp P a w (wpList P all.toArray Q rest) Q := fun h =>
      h.sound hr.ev (fun v w' hv => exO_sound hall rest hrest _ _ _ K X hv (hr.put (dok_spec hd) v) hK hX) (fun ch w' hx => hX _ _ _ _ hx hr)
    unfold wpList
    split at h
    · rename_i hg
      rw [if_pos (by simp [Region.wanted, hg])]
      exact .inl (step h)
    · rename_i j want hg
      split at h
      · rename_i b hb
        rw [wanted_gv hr hg hb hall]
        by_cases e : b = want
        · rw [if_pos (by simp [e])]; exact .inl (step (h.1 e))
        · rw [if_neg (by simp [e])]
          exact exO_sound hall rest hrest _ _ _ K X (h.2 (by cases b <;> cases want <;> simp_all)) (hr.put (dok_spec hd) undef) hK hX
      · rename_i vs hb
        rw [wanted_gv0 hr hg hb hall, if_neg (by simp)]
        exact exO_sound hall rest hrest _ _ _ K X h (hr.put (dok_spec hd) undef) hK hX
      · exact h.elim


section
variable {P : Program} {n : Nat} {ds : List Deferred} {F : Fr} {w : World} {Q : Exit → Fr → World → Prop}
theorem Wp.regionO {id : Nat} {l : List Oper} (hall : l.all (fun o => match o.dst with | some d => decide (d < n) | none => true) = true)
    (h : exO P l l F w (Q .normal) (fun F ch w => Q (.panic ch) F w)) : Wp P n ds (.region id l.toArray false) F w Q := by
  intro a hr
  have hd : ∀ o ∈ l, dok n o.dst := by
    intro o ho
    have := List.all_eq_true.1 hall o ho
    unfold dok
    split <;> simp_all
  exact wp_region_lit (exO_sound (ds := ds) (all := l) hd l hd F w a _ _ h hr (fun F' a' w' k r => ⟨F', r, k⟩) (fun F' a' ch w' k r => ⟨F', r, k⟩))

theorem exO_nil {all : List Oper} {K : Fr → World → Prop} {X : Fr → List PanicEntry → World → Prop} (h : K F w) : exO P all [] F w K X := h
/-- The next operation, by what it computes. -/
theorem exO_run {all rest : List Oper} {o : Oper} {K : Fr → World → Prop} {X : Fr → List PanicEntry → World → Prop} (v : Value) (hg : o.guard = none)
    (hr : (execOp (ev F) o).run P w = .ok (.value v) w) (h : exO P all rest (put F o.dst v) w K X) : exO P all (o :: rest) F w K X := by
  unfold exO; rw [hg]; exact .of_run hr h
theorem exO_runG {all rest : List Oper} {o : Oper} {K : Fr → World → Prop} {X : Fr → List PanicEntry → World → Prop} (v : Value) {j : Nat} {b : Bool} (hg : o.guard = some (j, b)) (hv : gv all j F = .bool b)
    (hr : (execOp (ev F) o).run P w = .ok (.value v) w) (h : exO P all rest (put F o.dst v) w K X) : exO P all (o :: rest) F w K X := by
  unfold exO; rw [hg]; simp only [hv, gsel]; exact ⟨fun _ => .of_run hr h, fun h => by cases b <;> simp at h⟩
theorem exO_skip {all rest : List Oper} {o : Oper} {K : Fr → World → Prop} {X : Fr → List PanicEntry → World → Prop} {j : Nat} {b : Bool} (hg : o.guard = some (j, b)) (hv : gv all j F = .bool (!b))
    (h : exO P all rest (put F o.dst undef) w K X) : exO P all (o :: rest) F w K X := by
  unfold exO; rw [hg]; simp only [hv, gsel]; exact ⟨fun h => by cases b <;> simp at h, fun _ => h⟩
theorem exO_op {all rest : List Oper} {o : Oper} {K : Fr → World → Prop} {X : Fr → List PanicEntry → World → Prop} (hg : o.guard = none)
    (h : ex P o F w (fun v w' => exO P all rest (put F o.dst v) w' K X) (X F)) : exO P all (o :: rest) F w K X := by
  unfold exO; rw [hg]; exact ex_OpV h
theorem exO_opG {all rest : List Oper} {o : Oper} {K : Fr → World → Prop} {X : Fr → List PanicEntry → World → Prop} {j : Nat} {b : Bool} (hg : o.guard = some (j, b)) (hv : gv all j F = .bool b)
    (h : ex P o F w (fun v w' => exO P all rest (put F o.dst v) w' K X) (X F)) : exO P all (o :: rest) F w K X := by
  unfold exO; rw [hg]; simp only [hv, gsel]; exact ⟨fun _ => ex_OpV h, fun h => by cases b <;> simp at h⟩
end
end Go.VC
