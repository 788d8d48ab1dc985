/- A function that defers a call. -/
import Derived.Test.YtddichibegppjaaVs
import Derived.Defers
import Derived.Recover
set_option linter.unusedSimpArgs false
set_option linter.unusedVariables false
namespace Go.VC
open Go Go.RowKit
section
variable {P : Program} {n : Nat} {ds : List Deferred} {F : Fr} {w : World} {Q : Exit → Fr → World → Prop}
theorem enterD {f : FuncId} {fn : Func} {c : Code} {args : List Value} {R : Ending → World → Prop} (hf : P.funcs[f]? = some fn) (hb : fn.body = some c)
    (hm : fn.ntmps = n) (hn : args.length ≤ n) (h : ∀ a, Rep n [] (arg args) a → c.wp P (bodyPostD P fn R) a w) : Calls P f args.toArray w R := by
  subst hm
  refine calls_of_wp_defers hf hb (h _ ⟨?_, rfl, fun i => ?_⟩)
  · simp; omega
  · simp only [Array.getD_eq_getD_getElem?, arg, List.getD_eq_getElem?_getD]
    by_cases hi : i < args.length
    · rw [Array.getElem?_append_left (by simpa using hi)]; simp
    · rw [Array.getElem?_append_right (by simpa using Nat.le_of_not_lt hi)]
      rw [List.getElem?_eq_none (by omega)]
      simp [Array.getElem?_replicate]
      split <;> rfl
theorem wp_of {c : Code} {a : Act} (h : Wp P n ds c F w Q) (hr : Rep n ds F a) : c.wp P (fun e a' w' => ∃ F', Rep n ds F' a' ∧ Q e F' w') a w := by
  unfold Wp at h; exact h a hr
/-- A piece that ends, and what is behind it. -/
theorem wp_then {x y : Code} {a : Act} {Q' : Exit → Act → World → Prop} {M : Fr → World → Prop} (h : Wp P n ds x F w fun e F' w' => e = .normal ∧ M F' w') (hr : Rep n ds F a)
    (hy : ∀ F' a' w', M F' w' → Rep n ds F' a' → y.wp P Q' a' w') : (Code.seq x y).wp P Q' a w := by
  refine wp_seq (Go.wp_mono (wp_of h hr) fun e a' w' ⟨F', r, he, q⟩ => ?_)
  subst he
  exact hy F' a' w' q r
theorem wp_defer {y : Code} {a : Act} {Q' : Exit → Act → World → Prop} {id t : Nat} {o1 o2 : Oper} {v : Value} {d : Deferred} (hr : Rep n ds F a) (g1 : o1.guard = none) (g2 : o2.guard = none) (d1 : o1.dst = some t) (ht : t < n) (d2 : o2.dst = none)
    (h1 : (execOp (ev F) o1).run P w = .ok (.value v) w) (h2 : (execOp (ev (upd F t v)) o2).run P w = .ok (.defer d) w)
    (hy : ∀ a', Rep n (d :: ds) (upd F t v) a' → y.wp P Q' a' w) : (Code.seq (.region id #[o1, o2] false) y).wp P Q' a w := by
  refine wp_seq (wp_region_lit (l := [o1, o2]) ?_)
  have hp : Rep n ds (upd F t v) (a.put o1.dst v) := by
    have := hr.put (d := o1.dst) (fun i hi => by rw [d1] at hi; injection hi with hi; omega) v
    rw [d1] at this ⊢; exact this
  unfold wpList
  rw [if_pos (by simp [Region.wanted, g1])]
  refine .inl ?_
  unfold Oper.wp
  rw [hr.ev, h1, Oper.upon_value]
  unfold wpList
  rw [if_pos (by simp [Region.wanted, g2])]
  refine .inl ?_
  unfold Oper.wp
  rw [hp.ev, h2, Oper.upon_defer, d2]
  unfold wpList
  exact hy _ ⟨hp.size, by show d :: (a.put o1.dst v).defers = d :: ds; rw [hp.defs], hp.at_⟩
/-- The end: what is deferred is done. -/
theorem leaves_one {fn : Func} {a : Act} {R : Ending → World → Prop} {fv : Fn} {cap dargs : Array Value} {f : FuncId} {args : Array Value} {w w' : World} {u u' : FrameMode} {v : Value} {rs : List ResultVar} (hr : Rep n ds F a) (hu : u ≠ .run)
    (hi : (invoke (.fn fv cap) dargs).run P w = .ok (.enter f args) w) (h : CallsD P f args u w fun x u₂ w₂ => x = .returned (.tuple #[]) ∧ u₂ = u' ∧ w₂ = w') (hs : settle u' = .returning)
    (hf : fn.results = rs.toArray) (hv : resVs P w' F rs = some v) (hR : R (.returned v) w') : Leaves P fn a.tmps R [{ target := .fn fv cap, args := dargs }] u w := by
  refine leaves_cons hu hi (h.mono ?_)
  rintro x u₂ w₂ ⟨rfl, rfl, rfl⟩
  simp only [hs]
  exact ⟨v, run_results hr hf hv, hR⟩
end
end Go.VC
