/- Rules by which a verification condition is reckoned. -/
import Derived.Test.YtddichibegppjaaVf
set_option linter.unusedSimpArgs false
set_option linter.unusedVariables false
namespace Go.VC
open Go Go.RowKit


theorem upd_at (F : Fr) (i : Nat) (v : Value) (j : Nat) : upd F i v j = if j = i then v else F j := rfl
theorem put_some (F : Fr) (i : Nat) (v : Value) : put F (some i) v = upd F i v := rfl
theorem put_none (F : Fr) (v : Value) : put F none v = F := rfl
theorem ev_tmp (F : Fr) (t : Nat) : ev F (.tmp t) = F t := rfl
theorem ev_const (F : Fr) (v : Value) : ev F (.const v) = v := rfl
theorem dok_some (n i : Nat) : dok n (some i) = (i < n) := rfl
theorem dok_none (n : Nat) : dok n none = True := rfl
theorem arg_zero (v : Value) (l : List Value) : arg (v :: l) 0 = v := rfl
theorem arg_succ (v : Value) (l : List Value) (i : Nat) : arg (v :: l) (i + 1) = arg l i := by simp [arg]
theorem arg_nil (i : Nat) : arg [] i = undef := by simp [arg]
theorem wrap_id {x : Int} (h : -9223372036854775808 ≤ x ∧ x ≤ 9223372036854775807) : IntKind.i64.wrap x = x := by
  rw [IntKind.wrap_i64]; omega
theorem wrap_u8 {x : Int} (h : 0 ≤ x ∧ x ≤ 255) : IntKind.u8.wrap x = x := by
  simp only [IntKind.wrap, IntKind.bits, IntKind.signed, Bool.false_and, Bool.false_eq_true, if_false]; omega
theorem thenQ_normal (K : Fr → World → Prop) (Q : Exit → Fr → World → Prop) (F : Fr) (w : World) : thenQ K Q .mk .normal F w = K F w := rfl
theorem bt_range (s : ByteArray) (i : Nat) : 0 ≤ bt s i ∧ bt s i ≤ 255 := by unfold bt; have := (s.data.toList.getD i 0).toNat_lt; omega
end Go.VC
namespace Go.VC
open Go
section
variable {P : Program} {n : Nat} {K : Fr → World → Prop} {Q : Exit → Fr → World → Prop} {F : Fr} {w : World} {i id : Nat} {ch : List PanicEntry} {R : Ending → World → Prop}
theorem thenQ_ret : thenQ K Q .mk .ret F w = Q .ret F w := rfl
theorem thenQ_exit : thenQ K Q .mk (.exit i) F w = Q (.exit i) F w := rfl
theorem thenQ_panic : thenQ K Q .mk (.panic ch) F w = Q (.panic ch) F w := rfl
theorem blockQ_normal : blockQ id Q .mk .normal F w = Q .normal F w := rfl
theorem blockQ_ret : blockQ id Q .mk .ret F w = Q .ret F w := rfl
theorem blockQ_panic : blockQ id Q .mk (.panic ch) F w = Q (.panic ch) F w := rfl
theorem blockQ_exit : blockQ id Q .mk (.exit i) F w = if i = id then Q .normal F w else Q (.exit i) F w := rfl
theorem post_ret0 : post P [] R .mk .ret F w = Ret R (.tuple #[]) w := rfl
theorem post_normal0 : post P [] R .mk .normal F w = Ret R (.tuple #[]) w := rfl
theorem post_ret1 (t : Nat) : post P [.tmp t] R .mk .ret F w = Ret R (F t) w := rfl
theorem post_ret2 (t u : Nat) : post P [.tmp t, .tmp u] R .mk .ret F w = Ret R (.tuple #[F t, F u]) w := rfl
theorem post_ret3 (t u v : Nat) : post P [.tmp t, .tmp u, .tmp v] R .mk .ret F w = Ret R (.tuple #[F t, F u, F v]) w := rfl
theorem post_panic {rs : List ResultVar} : post P rs R .mk (.panic ch) F w = Pan R ch w := rfl
end
attribute [push_cast] thenQ_ret thenQ_exit thenQ_panic blockQ_normal blockQ_ret blockQ_panic blockQ_exit post_ret0 post_normal0 post_ret1 post_ret2 post_ret3 post_panic
theorem zeros_zero (z : List Value) : zeros z 0 = [] := rfl
theorem zeros_succ (z : List Value) (n : Nat) : zeros z (n + 1) = z ++ zeros z n := by simp [zeros, List.replicate_succ]
theorem zeros_one_eq (z : List Value) : zeros z 1 = z := by simp [zeros]
theorem zeros_one (v : Value) (n : Nat) : zeros [v] n = List.replicate n v := by
  induction n with
  | zero => rfl
  | succ n ih => rw [zeros_succ, ih, List.replicate_succ]; rfl
theorem fillV_nil (p : Nat → Option (Nat × Nat)) (cs : List Value) : fillV p cs [] = some cs := rfl
theorem fillV_cons (p : Nat → Option (Nat × Nat)) (cs : List Value) (i : Nat) (v : Value) (r : List (Nat × Value)) : fillV p cs ((i, v) :: r) = match p i with
    | none => none
    | some (off, size) => if v.cells.toList.length = size ∧ off + size ≤ cs.length then fillV p (putAt cs off v.cells.toList) r else none := rfl
theorem putAt_def (cs : List Value) (off : Nat) (vs : List Value) : putAt cs off vs = cs.take off ++ vs ++ cs.drop (off + vs.length) := rfl
theorem sel_true (a b : Value) : (if true = true then a else b) = a := rfl
theorem sel_false (a b : Value) : (if false = true then a else b) = b := rfl
attribute [push_cast] zeros_one_eq ex2 loV hiV fillV_nil fillV_cons putAt_def Value.cells Value.oneCell' Option.map_none Option.map_some Option.isNone_none Option.isNone_some List.take_zero List.take_succ_cons List.drop_zero List.drop_succ_cons List.nil_append List.cons_append List.append_nil List.all_cons List.all_nil Bool.and_true Bool.true_and Nat.add_zero Nat.zero_mul Nat.mul_one Nat.one_mul Int.toNat_natCast Bool.not_true Bool.not_false decide_true decide_false true_implies Bool.false_eq_true false_implies Nat.le_refl Option.isSome_none Option.isSome_some
attribute [push_cast] undef gv gsel_tt gsel_ff gsel_tf gsel_ft exL ex put_some put_none ev_tmp ev_const thenQ_normal ints arg_zero arg_succ arg_nil List.map_cons List.map_nil true_and and_true
attribute [push_cast] wrap_id wrap_u8
end Go.VC
