/- A calculus of walks: frames as functions, the verification condition of an operation as a function, its soundness. No statement of this seat. -/
import Derived.WalkKit
import Derived.WalkLawsBesides
set_option linter.unusedSimpArgs false
set_option linter.unusedVariables false
namespace Go.VC
open Go

/-- What stands under a token is not rewritten. -/
inductive Tok {α : Type} (a : α) : Type where
  | mk : Tok a

abbrev Fr := Nat → Value
def upd (F : Fr) (i : Nat) (v : Value) : Fr := fun j => if j = i then v else F j
def put (F : Fr) (d : Option Nat) (v : Value) : Fr := match d with | none => F | some i => upd F i v
def ev (F : Fr) : Operand → Value
  | .tmp t => F t
  | .const v => v
  | .global g => .pointer (some ⟨g, 0, none⟩)
  | .func f => .func (.func f) #[] #[]

structure Rep (n : Nat) (ds : List Deferred) (F : Fr) (a : Act) : Prop where
  size : a.tmps.size = n
  defs : a.defers = ds
  at_ : ∀ i, a.tmps.getD i undef = F i

theorem Rep.ev {n ds F a} (h : Rep n ds F a) : a.eval = ev F := by
  funext x; cases x <;> simp [Act.eval, VC.ev, h.at_]

theorem Rep.put {n ds F a} (h : Rep n ds F a) {d : Option Nat} (hd : ∀ i, d = some i → i < n) (v : Value) : Rep n ds (put F d v) (a.put d v) := by
  cases d with
  | none => exact h
  | some i =>
    have hi := hd i rfl
    refine ⟨by simp [Act.put, h.size], by simp [Act.put, h.defs], fun j => ?_⟩
    simp only [Act.put, VC.put, upd]
    by_cases e : j = i
    · subst e; simp [Array.getD, h.size, hi]
    · rw [if_neg e, ← h.at_ j]
      simp [Array.getD_eq_getD_getElem?, Array.getElem?_setIfInBounds, Ne.symm e]

/-! ### What is asked of memory -/

/-- A cell of a block. -/
def rdc (w : World) (b i : Nat) : Option Value := w.cell? ⟨b, i, none⟩
/-- n cells of a block. -/
def rdn (w : World) (b i : Nat) : Nat → Option (List Value)
  | 0 => some []
  | n + 1 => match rdc w b i with | some v => (match rdn w b (i + 1) n with | some vs => some (v :: vs) | none => none) | none => none
/-- A cell that may be written. -/
def wrc (w : World) (b i : Nat) : Prop := (rdc w b i).isSome = true ∧ w.frozen? ⟨b, i, none⟩ = false
def wrn (w : World) (b i : Nat) : Nat → Prop
  | 0 => True
  | n + 1 => wrc w b i ∧ wrn w b (i + 1) n
def sts (w : World) (b i : Nat) : List Value → World
  | [] => w
  | v :: vs => sts (w.setCell ⟨b, i, none⟩ v) b (i + 1) vs

/-- How a variable of a type lies: 0: it is no type; 1: one cell; n + 2: a struct or an array of n cells. -/
def tk (P : Program) (t : TypeId) : Nat :=
  match P.underlying t, P.info? t with
  | some (.struct _), some i | some (.array ..), some i => i.size + 2
  | some _, some i => if i.size = 1 then 1 else 0
  | _, _ => 0
/-- Where a field lies. -/
def fo (P : Program) (s j : Nat) : Option Nat :=
  match P.underlying s with
  | some (.struct fs) => match fs[j]? with
    | some f => match P.info? f.type with
      | some i => if i.size = 0 then none else some f.offset
      | none => none
    | none => none
  | _ => none
/-- A zero value's cells. -/
def zc (P : Program) (t : TypeId) : Option (List Value) := match P.info? t with | some i => i.zero.map (·.cells.toList) | none => none
def ts (P : Program) (t : TypeId) : Option Nat := (P.info? t).map (·.size)
/-- A slice type's element: its number and its cells; an array's, likewise, with its length. -/
def se (P : Program) (t : TypeId) : Option (Nat × Nat) :=
  match P.underlying t with | some (.slice e) => (match P.info? e with | some i => some (e, i.size) | none => none) | _ => none
def ae (P : Program) (t : TypeId) : Option (Nat × Nat) :=
  match P.underlying t with | some (.array n e) => (match P.info? e with | some i => some (n, i.size) | none => none) | _ => none
def isStr (P : Program) (t : TypeId) : Bool := match P.underlying t with | some .string => true | _ => false

/-- A byte of a string. -/
def bt (s : ByteArray) (i : Nat) : Int := ((s.data.toList.getD i 0).toNat : Int)

/-- A function that is called with a body. -/
def isCall (P : Program) (f : FuncId) : Bool := match P.funcs[f]? with | some fn => fn.body.isSome && !(fn.name == "runtime.NumGoroutine") | none => false

def CallV (P : Program) (f : FuncId) (args : List Value) (w : World) (K : Value → World → Prop) (X : List PanicEntry → World → Prop) (_ : Tok (K, X) := .mk) : Prop :=
  (isCall P f = true ∧ Calls P f args.toArray w fun
    | .returned v, w' => K v w'
    | .panicked ch, w' => X ch w'
    | .outgrown, _ => False) ∨ ∃ v w', (callFunc f args.toArray).run P w = .ok (.value v) w' ∧ K v w'

/-- An operation that has no rule here: whatever is known of it. -/
def OpV (P : Program) (o : Oper) (F : Fr) (w : World) (K : Value → World → Prop) (X : List PanicEntry → World → Prop) (_ : Tok (o, K, X) := .mk) : Prop :=
  match (execOp (ev F) o).run P w with
  | .ok (.value v) w' => K v w'
  | .ok .skip w' => K undef w'
  | .ok (.enter f args) w' => Calls P f args w' fun
    | .returned v, w'' => K v w''
    | .panicked ch, w'' => X ch w''
    | .outgrown, _ => False
  | .halt (.panic v) w' => X [{ v, recovered := false }] w'
  | _ => False

theorem OpV.sound {P : Program} {o : Oper} {F : Fr} {w : World} {K : Value → World → Prop} {X : List PanicEntry → World → Prop} {a : Act} {next : Act → World → Prop} {Q : Exit → Act → World → Prop}
    (h : OpV P o F w K X) (he : a.eval = ev F) (hK : ∀ v w', K v w' → next (a.put o.dst v) w') (hX : ∀ ch w', X ch w' → Q (.panic ch) a w') : o.wp P a w next Q := by
  unfold Oper.wp
  rw [he]
  unfold OpV at h
  generalize (execOp (ev F) o).run P w = r at *
  cases r with
  | ok x w' =>
    cases x <;> simp only [Oper.upon] at h ⊢ <;> try exact h.elim
    · exact hK _ _ h
    · exact hK _ _ h
    · refine h.mono fun e w'' he => ?_
      cases e with
      | returned v => exact hK _ _ he
      | panicked ch => exact hX _ _ he
      | outgrown => exact he.elim
  | halt x w' =>
    cases x <;> simp only [Oper.upon] at h ⊢ <;> try exact h.elim
    exact hX _ _ h

/-- Two operations that come to the same. -/
theorem OpV.of_run {P : Program} {o : Oper} {F : Fr} {w w' : World} {K : Value → World → Prop} {X : List PanicEntry → World → Prop} {v : Value}
    (hr : (execOp (ev F) o).run P w = .ok (.value v) w') (h : K v w') : OpV P o F w K X := by unfold OpV; rw [hr]; exact h
theorem OpV.of_skip {P : Program} {o : Oper} {F : Fr} {w w' : World} {K : Value → World → Prop} {X : List PanicEntry → World → Prop}
    (hr : (execOp (ev F) o).run P w = .ok .skip w') (h : K undef w') : OpV P o F w K X := by unfold OpV; rw [hr]; exact h

/-- What a field's place is filled with, of cells. -/
def isEqB (d : Option TypeDesc) : Bool := match d with | some .bool => true | _ => false
def fillC (sz : Nat → Option (Nat × Nat)) (cells : List Value) (parts : List (Nat × Value)) : Option (List Value) := (Instr.fill sz cells.toArray parts).map (·.toList)
def places (P : Program) (t : TypeId) : Option (List (Nat × Nat)) :=
  match P.underlying t with
  | some (.struct fs) => fs.toList.mapM fun f => (P.info? f.type).map fun i => (f.offset, i.size)
  | _ => none

def ints : IntKind → BinOp → Int → Int → Option Value
  | k, .add, x, y => some (.int k (k.wrap (x + y)))
  | k, .sub, x, y => some (.int k (k.wrap (x - y)))
  | k, .mul, x, y => some (.int k (k.wrap (x * y)))
  | k, .quo, x, y => if y = 0 then none else some (.int k (k.wrap (x.tdiv y)))
  | k, .rem, x, y => if y = 0 then none else some (.int k (x.tmod y))
  | k, .shr, x, y => if y < 0 then none else some (.int k (x.fdiv (2 ^ (min y.toNat k.bits))))
  | _, .eql, x, y => some (.bool (x == y))
  | _, .neq, x, y => some (.bool (x != y))
  | _, .lss, x, y => some (.bool (decide (x < y)))
  | _, .leq, x, y => some (.bool (decide (x ≤ y)))
  | _, .gtr, x, y => some (.bool (decide (x > y)))
  | _, .geq, x, y => some (.bool (decide (x ≥ y)))
  | _, _, _, _ => none

def isPtr (P : Program) (t : TypeId) : Bool := match P.underlying t with | some (.pointer _) => true | _ => false
/-- An integer type's kind. -/
def ik (P : Program) (t : TypeId) : Option IntKind := match P.underlying t with | some (.int k) => some k | _ => none
/-- Cells, some of them others. -/
def putAt (cells : List Value) (off : Nat) (vs : List Value) : List Value := cells.take off ++ vs ++ cells.drop (off + vs.length)
def fillV (place : Nat → Option (Nat × Nat)) : List Value → List (Nat × Value) → Option (List Value)
  | cells, [] => some cells
  | cells, (i, v) :: rest => match place i with
    | none => none
    | some (off, size) => if v.cells.toList.length = size ∧ off + size ≤ cells.length then fillV place (putAt cells off v.cells.toList) rest else none
/-- A slice type's element: its number, its cells, its bytes, its zero value's cells. -/
def mk (P : Program) (t : TypeId) : Option (Nat × Nat × Nat × List Value) :=
  match P.underlying t with
  | some (.slice e) => (match P.info? e with | some i => (match i.zero with | some z => if z.cells.size = i.size ∧ 0 < i.size then some (e, i.size, i.bytes, z.cells.toList) else none | none => none) | none => none)
  | _ => none
/-- n elements, zero values all. -/
def zeros (z : List Value) (n : Nat) : List Value := (List.replicate n z).flatten
def loV : Option Value → Option Int | none => some 0 | some (.int _ n) => some n | _ => none
def hiV (d : Nat) : Option Value → Option Int | none => some d | some (.int _ n) => some n | _ => none
def strNil (a : Option Addr) : Bool := match a with | none => true | some _ => false

def ex2 (P : Program) (o : Oper) (F : Fr) (w : World) (K : Value → World → Prop) (X : List PanicEntry → World → Prop) (_ : Tok (o, K, X) := .mk) : Prop :=
  match o.op with
  | .build t parts => match places P t, zc P t with
    | some pls, some z => (match fillV (fun i => pls[i]?) z (parts.toList.map fun p => (p.1, ev F p.2)) with | some cs => K (.agg cs.toArray) w | none => OpV P o F w K X)
    | _, _ => OpV P o F w K X
  | .buildSlice t n parts => match mk P t with
    | some (e, sz, _, z) => n * sz ≤ 16777216 ∧ (match fillV (fun i => some (i * sz, sz)) (zeros z n) (parts.toList.map fun p => (p.1, ev F p.2)) with
      | some cs => K (.slice (some ⟨w.heap.size, 0, none⟩) n n) (w.alloc (.cells cs.toArray e))
      | none => False)
    | none => False
  | .makeSlice t l c => match ev F l, ev F c with
    | .int _ a, .int _ b => match mk P t with
      | some (e, _, by_, z) => (0 ≤ a ∧ a ≤ b ∧ (by_ : Int) * b ≤ 281474976710656 ∧ b ≤ 9223372036854775807) ∧ K (.slice (some ⟨w.heap.size, 0, none⟩) a.toNat b.toNat) (w.alloc (.cells (zeros z b.toNat).toArray e))
      | none => False
    | _, _ => False
  | .slice t x lo hi mx => match ev F x with
    | .string s => match mx, loV (lo.map (ev F)), hiV s.size (hi.map (ev F)) with
      | none, some l, some h => isStr P t = true ∧ (0 ≤ l ∧ l ≤ h ∧ h ≤ (s.size : Int)) ∧ K (.string (s.extract l.toNat h.toNat)) w
      | _, _, _ => OpV P o F w K X
    | .slice A n c => match mx, loV (lo.map (ev F)), hiV n (hi.map (ev F)) with
      | none, some l, some h => match se P t with
        | some (_, z) => (0 ≤ l ∧ l ≤ h ∧ h ≤ (c : Int)) ∧ K (.slice (if (c : Int) = l then A else A.map (·.add (l.toNat * z))) (h - l).toNat (c - l).toNat) w
        | none => False
      | _, _, _ => OpV P o F w K X
    | _ => OpV P o F w K X
  | .convert s d x => match ev F x with
    | .int _ n => match (P.underlying s).isSome, ik P d with
      | true, some k => K (.int k (k.wrap n)) w
      | _, _ => OpV P o F w K X
    | _ => OpV P o F w K X
  | _ => OpV P o F w K X

def ex (P : Program) (o : Oper) (F : Fr) (w : World) (K : Value → World → Prop) (X : List PanicEntry → World → Prop) (_ : Tok (o, K, X) := .mk) : Prop :=
  match o.op with
  | .move x => K (ev F x) w
  | .assign x => K (ev F x) w
  | .pick c x y => match ev F c with | .bool b => K (if b = true then ev F x else ev F y) w | _ => False
  | .alloc t => match zc P t with | some cs => K (.pointer (some ⟨w.heap.size, 0, none⟩)) (w.alloc (.cells cs.toArray t)) | none => False
  | .box t x => K (.pointer (some ⟨w.heap.size, 0, none⟩)) (w.alloc (.cells (ev F x).cells t))
  | .load t x => match ev F x with
    | .pointer (some ⟨b, i, none⟩) => match tk P t with
      | 0 => False
      | 1 => (match rdc w b i with | some v => K v w | none => False)
      | n + 2 => (match rdn w b i n with | some vs => K (.agg vs.toArray) w | none => False)
    | _ => False
  | .store t x y => match ev F x with
    | .pointer (some ⟨b, i, none⟩) => ts P t = some (ev F y).cells.toList.length ∧ (ev F y).cells.toList.all (·.oneCell') = true ∧ wrn w b i (ev F y).cells.toList.length ∧ K undef (w.setCells b i (ev F y).cells.toList)
    | _ => False
  | .nilCheck x => match ev F x with
    | .pointer (some p) => K (.pointer (some p)) w
    | .func (.func f) a c => K (.func (.func f) a c) w
    | _ => False
  | .binOp op t x y yt => match ev F x, ev F y with
    | .int k a, .int k' b => if k = k' then (match ints k op a b with | some v => K v w | none => OpV P o F w K X) else OpV P o F w K X
    | .string a, .string b => match op with
      | .add => a.size + b.size ≤ 9223372036854775807 ∧ K (.string (a ++ b)) w
      | .eql => K (.bool (a.data.toList == b.data.toList)) w
      | .neq => K (.bool (!(a.data.toList == b.data.toList))) w
      | _ => OpV P o F w K X
    | .bool a, .bool b => match op with
      | .eql => isEqB (P.underlying t) = true ∧ K (.bool (a == b)) w
      | .neq => isEqB (P.underlying t) = true ∧ K (.bool (!(a == b))) w
      | _ => OpV P o F w K X
    | .pointer p, .pointer none => match op with
      | .eql => isPtr P t = true ∧ K (.bool p.isNone) w
      | .neq => isPtr P t = true ∧ K (.bool (!p.isNone)) w
      | _ => OpV P o F w K X
    | _, _ => OpV P o F w K X
  | .unOp .not _ x => match ev F x with | .bool b => K (.bool (!b)) w | _ => OpV P o F w K X
  | .extract x i => match ev F x with | .tuple vs => (match vs[i]? with | some v => K v w | none => False) | _ => False
  | .fieldAddr s x j => match ev F x with
    | .pointer (some ⟨b, i, none⟩) => match fo P s j with | some k => K (.pointer (some ⟨b, i + k, none⟩)) w | none => False
    | _ => False
  | .indexAddr t x y => match ev F x, ev F y with
    | .slice (some ⟨b, i, none⟩) n _, .int _ k => match se P t with
      | some (_, z) => (0 ≤ k ∧ k < (n : Int)) ∧ K (.pointer (some ⟨b, i + k.toNat * z, none⟩)) w
      | none => False
    | .pointer (some ⟨b, i, none⟩), .int _ k => match ae P t with
      | some (n, z) => (0 ≤ k ∧ k < (n : Int)) ∧ K (.pointer (some ⟨b, i + k.toNat * z, none⟩)) w
      | none => False
    | _, _ => False
  | .index t x y => match ev F x, ev F y with
    | .string s, .int _ k => isStr P t = true ∧ (0 ≤ k ∧ k < (s.size : Int)) ∧ K (.int .u8 (bt s k.toNat)) w
    | _, _ => OpV P o F w K X
  | .makeInterface t x => match P.underlying t with | some (.interface _) => False | some _ => K (.iface t (ev F x)) w | none => False
  | .panic x => match ev F x with | .iface t v => X [{ v := .iface t v, recovered := false }] w | _ => OpV P o F w K X
  | .call c => match c.callee with
    | .value (.func f) => CallV P f (c.args.toList.map (ev F)) w K X
    | .builtin .len => match (c.args.toList.map (ev F)), c.argTypes.toList with
      | [.string s], [t] => isStr P t = true ∧ K (.int .i64 s.size) w
      | [.slice _ n _], [t] => (se P t).isSome = true ∧ K (.int .i64 n) w
      | _, _ => OpV P o F w K X
    | .builtin .max => match (c.args.toList.map (ev F)) with
      | [.int k x, .int _ y] => K (.int k (max x y)) w
      | _ => OpV P o F w K X
    | .builtin .min => match (c.args.toList.map (ev F)) with
      | [.int k x, .int _ y] => K (.int k (min x y)) w
      | _ => OpV P o F w K X
    | _ => OpV P o F w K X
  | _ => ex2 P o F w K X

end Go.VC
