/- Short names for what the walks' rows say often. -/
import Derived.Test.YtddichibegppjaaVo
set_option linter.unusedSimpArgs false
set_option linter.unusedVariables false
namespace Go.VC
open Go Go.RowKit
section
variable {P : Program} {w : World} {n : Nat} {ds : List Deferred} {F : Fr} {Q : Exit → Fr → World → Prop} {x y c d : Code} {o : Operand} {id m : Nat} {a : Array Oper} {bb : Bool}
theorem qS (h : Wp P n ds x F w (thenQ (fun F w => Wp P n ds y F w Q) Q)) : Wp P n ds (.seq x y) F w Q := Wp.seq h
theorem qB (h : Wp P n ds c F w (blockQ id Q)) : Wp P n ds (.block id c) F w Q := Wp.block h
theorem qT (hc : ev F o = .bool true) (h : Wp P n ds x F w Q) : Wp P n ds (.cond o x y) F w Q := Wp.condT hc h
theorem qF (hc : ev F o = .bool false) (h : Wp P n ds y F w Q) : Wp P n ds (.cond o x y) F w Q := Wp.condF hc h
theorem qR {l : List Oper} (hall : l.all (fun o => match o.dst with | some d => decide (d < n) | none => true) = true)
    (h : exL P l l F w (Q .normal) (fun F ch w => Q (.panic ch) F w)) : Wp P n ds (.region id l.toArray false) F w Q := Wp.region hall h
theorem qK (h : Q .normal F w) : Wp P n ds .skip F w Q := Wp.skip h
theorem qW (h : Q .ret F w) : Wp P n ds .ret F w Q := Wp.ret h
theorem qE (h : Q (.exit id) F w) : Wp P n ds (.exit id) F w Q := Wp.exit h
theorem qY (h : Wp P m ds (.seq (.seq (.region n a bb) c) d) F w Q) : Wp P m ds (.seq (.seq (.region n a bb) c) d) F w Q := h
theorem qV (h : Wp P m ds (.seq (.region n a bb) d) F w Q) : Wp P m ds (.seq (.region n a bb) d) F w Q := h
theorem qX (h : Wp P m ds (.seq (.block n c) d) F w Q) : Wp P m ds (.seq (.block n c) d) F w Q := h
theorem qA {p q : Prop} (a : p) (b : q) : p ∧ q := ⟨a, b⟩
structure Sm (p : Prop) : Prop where out : p
theorem qM {p : Prop} (h : p) : Sm p := ⟨h⟩
end
theorem qZ : (∀ w : World, w.drew.heap.size = w.heap.size) ∧ (∀ (w : World) (b : Obj), (w.alloc b).heap.size = w.heap.size + 1) ∧ (∀ (w : World) (p : Addr) (v : Value), (w.setCell p v).heap.size = w.heap.size) ∧ (∀ (w : World) (b i : Nat), w.setCells b i [] = w) ∧ (∀ (w : World) (b i : Nat) (v : Value) (cs : List Value), w.setCells b i (v :: cs) = (w.setCell ⟨b, i, none⟩ v).setCells b (i + 1) cs) :=
  ⟨fun _ => rfl, fun _ _ => by simp, fun _ _ _ => by simp, fun _ _ _ => rfl, fun _ _ _ _ _ => rfl⟩
theorem qL {α : Type} : (∀ a b : List α, (a ++ b).length = a.length + b.length) ∧ (∀ (a : α) (l : List α), (a :: l).length = l.length + 1) ∧ (([] : List α).length = 0) :=
  ⟨fun _ _ => by simp, fun _ _ => rfl, rfl⟩
theorem qD : (∀ (p : Prop) [Decidable p], (decide p = true) = p) ∧ (∀ (p : Prop) [Decidable p], (decide p = false) = ¬ p) := ⟨fun _ _ => by simp, fun _ _ => by simp⟩
theorem qP : (∀ {α : Type} (a : α) (l : List α), (a :: l)[0]? = some a) ∧ (∀ {α : Type} (a : α) (l : List α) (i : Nat), (a :: l)[i + 1]? = l[i]?) ∧ (∀ (F : Fr) (i : Nat) (v : Value) (j : Nat), upd F i v j = if j = i then v else F j) :=
  ⟨fun _ _ => rfl, fun _ _ _ => rfl, fun _ _ _ _ => rfl⟩
attribute [push_cast] beq_self_eq_true
end Go.VC
