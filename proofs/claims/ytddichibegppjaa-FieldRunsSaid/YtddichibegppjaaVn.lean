/- Calls by contract; copies; slices of texts. -/
import Derived.Test.YtddichibegppjaaVm
import Derived.Laws.CopyRow
import Derived.Laws.IdiomStrings
set_option linter.unusedSimpArgs false
set_option linter.unusedVariables false
namespace Go.VC
open Go Go.RowKit

/-- What a call's end must bring. -/
def Beh (K : Value → World → Prop) (X : List PanicEntry → World → Prop) (e : Ending) (w : World) (_ : Tok (K, X) := .mk) : Prop :=
  match e with | .returned v => K v w | .panicked ch => X ch w | .outgrown => False
theorem Beh_ret (K : Value → World → Prop) (X : List PanicEntry → World → Prop) (v : Value) (w : World) : Beh K X (.returned v) w = K v w := rfl
theorem Beh_pan (K : Value → World → Prop) (X : List PanicEntry → World → Prop) (ch : List PanicEntry) (w : World) : Beh K X (.panicked ch) w = X ch w := rfl
attribute [push_cast] Beh_ret Beh_pan

section
variable {P : Program} {w w' : World} {K : Value → World → Prop} {X : List PanicEntry → World → Prop}

theorem CallV.of {f : FuncId} {args : List Value} {R : Ending → World → Prop} (hc : isCall P f = true) (h : Calls P f args.toArray w R) (hk : ∀ e w', R e w' → Beh K X e w') : CallV P f args w K X := by
  refine .inl ⟨hc, h.mono fun e w' he => ?_⟩
  have := hk e w' he
  cases e <;> exact this

/-- A function without a body. -/
theorem CallV.ext {f : FuncId} {args : List Value} {v : Value} {w' : World} (hr : (callFunc f args.toArray).run P w = .ok (.value v) w') (h : K v w') : CallV P f args w K X := .inr ⟨v, w', hr, h⟩
theorem CallV.gen {A : World → Prop} {f : FuncId} {args : List Value} (h0 : A w) (h : ∀ w', A w' → CallV P f args w' K X) : CallV P f args w K X := h w h0
theorem Wp.gen {A : World → Prop} {n : Nat} {ds : List Deferred} {c : Code} {F : Fr} {Q : Exit → Fr → World → Prop} (h0 : A w) (h : ∀ w', A w' → Wp P n ds c F w' Q) : Wp P n ds c F w Q := h w h0
theorem OpV.gen {A : World → Prop} {o : Oper} {F : Fr} (h0 : A w) (h : ∀ w', A w' → OpV P o F w' K X) : OpV P o F w K X := h w h0
theorem Ret.gen {A : World → Prop} {R : Ending → World → Prop} {v : Value} (h0 : A w) (h : ∀ w', A w' → Ret R v w') : Ret R v w := h w h0

theorem Wp.condT {n : Nat} {ds : List Deferred} {F : Fr} {Q : Exit → Fr → World → Prop} {c : Operand} {x y : Code} (hc : ev F c = .bool true) (h : Wp P n ds x F w Q) : Wp P n ds (.cond c x y) F w Q :=
  Wp.cond hc (fun _ => h) (fun e => by cases e)
theorem Wp.condF {n : Nat} {ds : List Deferred} {F : Fr} {Q : Exit → Fr → World → Prop} {c : Operand} {x y : Code} (hc : ev F c = .bool false) (h : Wp P n ds y F w Q) : Wp P n ds (.cond c x y) F w Q :=
  Wp.cond hc (fun e => by cases e) (fun _ => h)

/-- A fact that is put aside. -/
structure Hide (p : Prop) : Prop where
  out : p

/-- What is to hold between two pieces. -/
def Mid (M : Fr → World → Prop) (_ : Tok M := .mk) (F : Fr) (w : World) : Prop := M F w
theorem Mid.mk {M : Fr → World → Prop} {F : Fr} {w : World} (h : M F w) : Mid M .mk F w := h
theorem Wp.cut {n : Nat} {ds : List Deferred} {x y : Code} {F : Fr} {Q : Exit → Fr → World → Prop} (M : Fr → World → Prop)
    (h : Wp P n ds x F w (thenQ (Mid M) fun _ _ _ => False)) (hy : ∀ F' w', M F' w' → Wp P n ds y F' w' Q) : Wp P n ds (.seq x y) F w Q := by
  refine Wp.seq (h.mono fun e F' w' hq => ?_)
  cases e <;> first | exact hy _ _ hq | exact hq.elim
attribute [irreducible] Mid

/-- A slice of texts that may be read. -/
def Txt (w : World) (A : Option Addr) (xs : List (List UInt8)) : Prop :=
  xs = [] ∨ ∃ b o, A = some ⟨b, o, none⟩ ∧ b < w.heap.size ∧ ∀ j x, xs[j]? = some x → rdc w b (o + j) = some (.string (B x))
theorem Txt.form {A : Option Addr} {xs : List (List UInt8)} (h : Txt w A xs) (hn : xs ≠ []) : ∃ b o, A = some ⟨b, o, none⟩ ∧ b < w.heap.size ∧ ∀ j x, xs[j]? = some x → rdc w b (o + j) = some (.string (B x)) := h.resolve_left hn
theorem Txt.Kp {S : Nat → Prop} {A : Option Addr} {xs : List (List UInt8)} (h : Txt w A xs) (hk : VC.Kp S w w') (hs : ∀ g, bk A = some g → ¬ S g) : Txt w' A xs := by
  rcases h with h | ⟨b, o, rfl, hb, hr⟩
  · exact .inl h
  · exact .inr ⟨b, o, rfl, Nat.lt_of_lt_of_le hb hk.size, fun j x hj => by rw [hk.rdc hb (hs b rfl)]; exact hr j x hj⟩
/-- Texts as values. -/
def St (xs : List (List UInt8)) : List Value := xs.map fun x => .string (B x)
theorem St_len (xs : List (List UInt8)) : (St xs).length = xs.length := by simp [St]
theorem St_get (xs : List (List UInt8)) (j : Nat) : (St xs)[j]? = (xs[j]?).map fun x => .string (B x) := by simp [St]
theorem St_append (a b : List (List UInt8)) : St (a ++ b) = St a ++ St b := by simp [St]
theorem St_one : ∀ xs, (St xs).all (·.oneCell') = true := by intro xs; simp [St, Value.oneCell']
theorem Own.Txt {A : Option Addr} {n cap : Nat} {xs : List (List UInt8)} (h : Own w 9 1 A n cap (St xs)) : Txt w A xs := by
  have hl := h.len
  rw [St_len] at hl
  rcases Nat.eq_zero_or_pos n with hn | hn
  · left; exact List.eq_nil_of_length_eq_zero (by omega)
  · right
    obtain ⟨g, rfl, hg, _⟩ := h.some hn
    refine ⟨g, 0, rfl, hg, fun j x hj => ?_⟩
    have hjl : j < xs.length := (List.getElem?_eq_some_iff.1 hj).1
    rw [Nat.zero_add, h.rdc j (by omega), St_get, hj]; rfl
theorem Own.n {A : Option Addr} {n cap : Nat} {xs : List (List UInt8)} (h : Own w 9 1 A n cap (St xs)) : n = xs.length := by
  have := h.len; rw [St_len] at this; omega

theorem setRow_Blk {g t : Nat} {cs ds : List Value} (h : Blk w g t cs) (hl : ds.length = cs.length) : Blk (w.setRow g ds.toArray) g t ds := by
  unfold Blk at *
  exact setRow_heap w g cs.toArray ds.toArray t (0, 0) h
theorem Kp.setRow {S : Nat → Prop} {a : World} (h : Kp S a w) {g : Nat} (hg : g < a.heap.size → S g) (ds : Array Value) : Kp S a (w.setRow g ds) := by
  refine ⟨h.os, h.tape, h.output, by simpa [World.setRow] using h.size, fun k hk hs => ?_⟩
  have hne : g ≠ k := by rintro rfl; exact hs (hg hk)
  rw [← h.blk k hk hs]
  simp [World.setRow, Array.getElem?_modify, hne]

/-- copy into a block of the call's own, of texts. -/
theorem V_copy {o : Oper} {F : Fr} (d s : Operand) (t t' : Nat) (ho : o.op = .call { callee := .builtin .copy, args := #[d, s], argTypes := #[t, t'] }) (hse : se P t = some (9, 1))
    {g dn dc n c : Nat} {A : Option Addr} {cs : List Value} {xs : List (List UInt8)} (hd : ev F d = .slice (some ⟨g, 0, none⟩) dn dc) (hb : Blk w g 9 cs) (hcs : cs.length = dn)
    (hs : ev F s = .slice A n c) (hn : n = xs.length) (hx : Txt w A xs) (hle : n ≤ dn)
    (h : ∀ w', Kp (· = g) w w' → Blk w' g 9 (St xs ++ cs.drop xs.length) → K (.int .i64 n) w') : OpV P o F w K X := by
  obtain ⟨hu, i, hi, h1⟩ : P.underlying t = some (.slice 9) ∧ ∃ i, P.info? 9 = some i ∧ i.size = 1 := by
    unfold se at hse
    split at hse
    · rename_i e he
      split at hse
      · rename_i i hi
        simp at hse
        obtain ⟨rfl, h1⟩ := hse
        exact ⟨he, i, hi, h1⟩
      · cases hse
    · cases hse
  have hmin : Nat.min n dn = n := Nat.min_eq_left hle
  have key : ∃ w', (Builtin.copy_ #[t, t'] o.type #[.slice (some ⟨g, 0, none⟩) dn dc, .slice A n c]).run P w = .ok (.int .i64 n) w' ∧ Kp (· = g) w w' ∧ Blk w' g 9 (St xs ++ cs.drop xs.length) := by
    rcases hx with rfl | ⟨b, q, rfl, hlt, hr⟩
    · simp at hn
      subst hn
      refine ⟨w, ?_, Kp.refl _ _, by simpa [St] using hb⟩
      simp [Builtin.copy_, run_underlying hu, Builtin.lenOf, Builtin.firstCells, sizeOf, typeInfo, hi, storeCells, goInt]
      cases A <;> simp [loadCells, loadCellsFrom, storeCells, Result.andThen]
    · have := run_copy_row (P := P) w t t' o.type 9 g 0 dn dc ⟨b, q, none⟩ n c cs.toArray 9 (St xs) hu (by simp [hi, h1]) hb (by rw [St_len]; omega) (fun j v hj => by
        rw [St_get] at hj
        cases hq : xs[j]? with
        | none => simp [hq] at hj
        | some x => simp [hq] at hj; subst hj; rw [Addr.add_plain]; exact hr j x hq) (by simp [St_len]; omega) (fun v hv => by have := List.all_eq_true.1 (St_one xs) v hv; exact this)
      simp only [St_len, ← hn, List.take_zero, List.nil_append, Nat.zero_add] at this
      refine ⟨_, this, (Kp.refl (· = g) w).setRow (fun _ => rfl) _, ?_⟩
      subst hn
      exact setRow_Blk hb (by simp [St_len]; omega)
  obtain ⟨w', hrun, hk, hblk⟩ := key
  refine .of_run (w' := w') (v := .int .i64 n) ?_ (h w' hk hblk)
  simp only [execOp, ho, resolve, invoke, builtin, Sem.run_bind, Sem.run_pure, Result.andThen_ok, List.map_toArray, List.map_cons, List.map_nil, hd, hs, hrun]
/-- A byte's value. -/
def by8 (c : UInt8) : Value := .int .u8 (c.toNat : Int)
/-- string(b), of bytes. -/
theorem V_str {o : Oper} {F : Fr} (s d : Nat) (x : Operand) (ho : o.op = .convert s d x) (hse : se P s = some (5, 1)) (hik : ik P 5 = some .u8) (hd : isStr P d = true)
    {A : Option Addr} {n c : Nat} (l : List UInt8) (hx : ev F x = .slice A n c) (hn : n = l.length) (hr : l = [] ∨ ∃ b i, A = some ⟨b, i, none⟩ ∧ ∀ j (hj : j < l.length), rdc w b (i + j) = some (by8 l[j]))
    (h : K (.string (B l)) w) : OpV P o F w K X := by
  have hu : P.underlying s = some (.slice 5) := by
    unfold se at hse
    split at hse
    · rename_i e he
      split at hse
      · simp at hse; rw [he, hse.1]
      · cases hse
    · cases hse
  have hu5 : P.underlying 5 = some (.int .u8) := by unfold ik at hik; split at hik <;> simp_all
  have hus : P.underlying d = some .string := by unfold isStr at hd; split at hd <;> simp_all
  have key : (convert s d (.slice A n c)).run P w = .ok (.string (B l)) w := by
    rcases hr with rfl | ⟨b, i, rfl, hc⟩
    · simp at hn; subst hn
      rw [run_convert_bytes_string w s d 5 A 0 c hu hu5 hus]
      cases A <;> simp [Conv.bytesToString, loadCells, loadCellsFrom, Result.andThen] <;> rfl
    · subst hn
      exact run_convert_bytes_back w s d 5 ⟨b, i, none⟩ c l hu hu5 hus (fun j hj => by rw [Addr.add_plain]; exact hc j hj)
  refine .of_run (w' := w) (v := .string (B l)) ?_ h
  simp only [execOp, ho, hx, Sem.run_bind, key, Result.andThen_ok, Sem.run_pure]
end
end Go.VC
