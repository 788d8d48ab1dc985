/- []byte(s). -/
import Derived.Test.YtddichibegppjaaVo
set_option linter.unusedSimpArgs false
set_option linter.unusedVariables false
namespace Go.VC
open Go Go.RowKit

theorem V_bytes {P : Program} {w : World} {K : Value → World → Prop} {X : List PanicEntry → World → Prop} {o : Oper} {F : Fr} (s d : Nat) (x : Operand) (ho : o.op = .convert s d x) (hse : se P d = some (5, 1)) (hik : ik P 5 = some .u8) (hs : isStr P s = true)
    (l : List UInt8) (hx : ev F x = .string (B l)) (h : ∀ cap w', Kp (fun _ => False) w w' → w.heap.size < w'.heap.size → (∀ j (hj : j < l.length), rdc w' w.heap.size j = some (by8 l[j])) → K (.slice (some ⟨w.heap.size, 0, none⟩) l.length cap) w') : OpV P o F w K X := by
  have hu : P.underlying d = some (.slice 5) := by
    unfold se at hse
    split at hse
    · rename_i e he
      split at hse
      · simp at hse; rw [he, hse.1]
      · cases hse
    · cases hse
  have hu5 : P.underlying 5 = some (.int .u8) := by unfold ik at hik; split at hik <;> simp_all
  have hus : P.underlying s = some .string := by unfold isStr at hs; split at hs <;> simp_all
  have key := run_bytes_of_string w s d 5 (B l) hus hu hu5
  rw [B_size] at key
  generalize hc : grownCap w l.length 0 5 = cap at key
  refine .of_run (w' := _) (v := .slice (some ⟨w.heap.size, 0, none⟩) l.length cap) ?_ (h cap (w.drew.alloc (.cells (bytesRow (B l) cap) 5 ((bytesRow (B l) cap).size, (bytesRow (B l) cap).size + 1))) ((Kp.refl _ w).drew.alloc _) (by rw [World.size_alloc]; exact Nat.lt_succ_self _) fun j hj => ?_)
  · simp only [execOp, ho, hx, Sem.run_bind, key, Result.andThen_ok, Sem.run_pure]
  · rw [rdc_alloc_new (w := w.drew) (b := w.heap.size) rfl]
    unfold bytesRow
    rw [Array.getElem?_append_left (by simpa [B] using hj)]
    simp [B, by8, hj]
end Go.VC
