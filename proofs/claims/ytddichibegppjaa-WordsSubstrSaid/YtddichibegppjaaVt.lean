/- Operations on floats, by what is known of them. -/
import Derived.Test.YtddichibegppjaaVs
import Derived.Test.YtddichibegppjaaFl
set_option linter.unusedSimpArgs false
set_option linter.unusedVariables false
namespace Go.VC
open Go Go.RowKit
section
variable {P : Program} {o : Oper} {F : Fr} {w w' : World} {K : Value → World → Prop} {X : List PanicEntry → World → Prop}
theorem OpV.bin {op : BinOp} {t yt : TypeId} {x y : Operand} {a b v : Value} (ho : o.op = .binOp op t x y yt) (hx : ev F x = a) (hy : ev F y = b) (hg : plainV a = true)
    (hr : (binOp op t a b).run P w = .ok v w') (hk : K v w') : OpV P o F w K X :=
  .of_run (by rw [exec_bin ho hx hy hg, hr]; rfl) hk
theorem OpV.cvt {s d : TypeId} {x : Operand} {a v : Value} (ho : o.op = .convert s d x) (hx : ev F x = a) (hr : (convert s d a).run P w = .ok v w') (hk : K v w') : OpV P o F w K X :=
  .of_run (v := v) (w' := w') (by simp [execOp, ho, hx, hr, Result.andThen]) hk
theorem OpV.max {c : Call} {a b v : Value} (ho : o.op = .call c) (hc : c.callee = .builtin .max) (ha : c.args.map (ev F) = #[a, b]) (hr : ∀ ts t, (Builtin.max_ ts t #[a, b]).run P w = .ok v w') (hk : K v w') : OpV P o F w K X :=
  .of_run (v := v) (w' := w') (by simp [execOp, ho, resolve, hc, invoke, builtin, ha, hr, Result.andThen]) hk
theorem OpV.min {c : Call} {a b v : Value} (ho : o.op = .call c) (hc : c.callee = .builtin .min) (ha : c.args.map (ev F) = #[a, b]) (hr : ∀ ts t, (Builtin.min_ ts t #[a, b]).run P w = .ok v w') (hk : K v w') : OpV P o F w K X :=
  .of_run (v := v) (w' := w') (by simp [execOp, ho, resolve, hc, invoke, builtin, ha, hr, Result.andThen]) hk
end
end Go.VC
