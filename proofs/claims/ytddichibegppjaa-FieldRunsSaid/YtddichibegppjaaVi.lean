/- Regions that draw their order: one walk in a chosen order serves every order. -/
import Derived.Test.YtddichibegppjaaVh
set_option linter.unusedSimpArgs false
set_option linter.unusedVariables false
namespace Go.VC
open Go

/-- What an operation yields that looks at no memory. -/
def pv (P : Program) (o : Oper) (F : Fr) (K : Value → Prop) (_ : Tok (o, K) := .mk) : Prop :=
  match o.op with
  | .move x => K (ev F x)
  | .assign x => K (ev F x)
  | .pick c x y => match ev F c with | .bool b => K (if b = true then ev F x else ev F y) | _ => False
  | .nilCheck x => match ev F x with | .pointer (some p) => K (.pointer (some p)) | _ => False
  | .binOp op t x y _ => match ev F x, ev F y with
    | .int k a, .int k' b => k = k' ∧ (match ints k op a b with | some v => K v | none => False)
    | .string a, .string b => match op with
      | .add => a.size + b.size ≤ 9223372036854775807 ∧ K (.string (a ++ b))
      | .eql => K (.bool (a.data.toList == b.data.toList))
      | .neq => K (.bool (!(a.data.toList == b.data.toList)))
      | _ => False
    | .bool a, .bool b => match op with
      | .eql => isEqB (P.underlying t) = true ∧ K (.bool (a == b))
      | .neq => isEqB (P.underlying t) = true ∧ K (.bool (!(a == b)))
      | _ => False
    | .pointer p, .pointer none => match op with
      | .eql => isPtr P t = true ∧ K (.bool p.isNone)
      | .neq => isPtr P t = true ∧ K (.bool (!p.isNone))
      | _ => False
    | _, _ => False
  | .unOp .not _ x => match ev F x with | .bool b => K (.bool (!b)) | _ => False
  | .extract x i => match ev F x with | .tuple vs => (match vs[i]? with | some v => K v | none => False) | _ => False
  | .fieldAddr s x j => match ev F x with
    | .pointer (some ⟨b, i, none⟩) => match fo P s j with | some k => K (.pointer (some ⟨b, i + k, none⟩)) | none => False
    | _ => False
  | .indexAddr t x y => match ev F x, ev F y with
    | .slice (some ⟨b, i, none⟩) n _, .int _ k => match se P t with
      | some (_, z) => (0 ≤ k ∧ k < (n : Int)) ∧ K (.pointer (some ⟨b, i + k.toNat * z, none⟩))
      | none => False
    | .pointer (some ⟨b, i, none⟩), .int _ k => match ae P t with
      | some (n, z) => (0 ≤ k ∧ k < (n : Int)) ∧ K (.pointer (some ⟨b, i + k.toNat * z, none⟩))
      | none => False
    | _, _ => False
  | .index t x y => match ev F x, ev F y with
    | .string s, .int _ k => isStr P t = true ∧ (0 ≤ k ∧ k < (s.size : Int)) ∧ K (.int .u8 (bt s k.toNat))
    | _, _ => False
  | .call c => match c.callee with
    | .builtin .len => match (c.args.toList.map (ev F)), c.argTypes.toList with
      | [.string s], [t] => isStr P t = true ∧ K (.int .i64 s.size)
      | [.slice _ n _], [t] => (se P t).isSome = true ∧ K (.int .i64 n)
      | _, _ => False
    | .builtin .max => match (c.args.toList.map (ev F)) with
      | [.int k x, .int _ y] => K (.int k (max x y))
      | _ => False
    | .builtin .min => match (c.args.toList.map (ev F)) with
      | [.int k x, .int _ y] => K (.int k (min x y))
      | _ => False
    | _ => False
  | .slice t x lo hi mx => match ev F x with
    | .string s => match mx, loV (lo.map (ev F)), hiV s.size (hi.map (ev F)) with
      | none, some l, some h => isStr P t = true ∧ (0 ≤ l ∧ l ≤ h ∧ h ≤ (s.size : Int)) ∧ K (.string (s.extract l.toNat h.toNat))
      | _, _, _ => False
    | .slice A n c => match mx, loV (lo.map (ev F)), hiV n (hi.map (ev F)) with
      | none, some l, some h => match se P t with
        | some (_, z) => (0 ≤ l ∧ l ≤ h ∧ h ≤ (c : Int)) ∧ K (.slice (if (c : Int) = l then A else A.map (·.add (l.toNat * z))) (h - l).toNat (c - l).toNat)
        | none => False
      | _, _, _ => False
    | _ => False
  | .convert s d x => match ev F x with
    | .int _ n => match (P.underlying s).isSome, ik P d with
      | true, some k => K (.int k (k.wrap n))
      | _, _ => False
    | _ => False
  | .build t parts => match places P t, zc P t with
    | some pls, some z => (match fillV (fun i => pls[i]?) z (parts.toList.map fun p => (p.1, ev F p.2)) with | some cs => K (.agg cs.toArray) | none => False)
    | _, _ => False
  | _ => False

theorem pv_run {P : Program} {o : Oper} {F : Fr} {K : Value → Prop} (h : pv P o F K) : ∃ v, (∀ w, (execOp (ev F) o).run P w = .ok (.value v) w) ∧ K v := by
  unfold pv at h
  split at h
  case h_1 x ho => exact ⟨ev F x, fun w => by simp [execOp, ho], h⟩
  case h_2 x ho => exact ⟨ev F x, fun w => by simp [execOp, ho], h⟩
  case h_3 c x y ho =>
    split at h
    · rename_i b hb
      exact ⟨if b = true then ev F x else ev F y, fun w => by simp [execOp, ho, hb, asBool, Result.andThen], h⟩
    · exact h.elim
  case h_4 x ho =>
    split at h
    · rename_i p hp; exact ⟨.pointer (some p), fun w => by simp [execOp, ho, hp], h⟩
    · exact h.elim
  case h_5 op t x y yt ho =>
    split at h
    · rename_i k a k' b hx hy
      obtain ⟨rfl, h⟩ := h
      split at h
      · rename_i v hv; exact ⟨v, fun w => by rw [exec_bin ho hx hy rfl, ints_run hv]; rfl, h⟩
      · exact h.elim
    · rename_i a b hx hy
      split at h
      · exact ⟨_, fun w => by rw [exec_bin ho hx hy rfl, str_add t a b h.1]; rfl, h.2⟩
      · exact ⟨_, fun w => by rw [exec_bin ho hx hy rfl, str_eql t a b]; rfl, h⟩
      · exact ⟨_, fun w => by rw [exec_bin ho hx hy rfl, str_neq t a b]; rfl, h⟩
      · exact h.elim
    · rename_i a b hx hy
      split at h
      · exact ⟨_, fun w => by rw [exec_bin ho hx hy rfl, run_eql_bool w t a b (isEqB_eq h.1)]; rfl, h.2⟩
      · exact ⟨.bool (!(a == b)), fun w => by rw [exec_bin ho hx hy rfl]; simp only [binOp]; simp [run_equal_bool w t a b (isEqB_eq h.1)], h.2⟩
      · exact h.elim
    · rename_i p hx hy
      have hptr : ∀ {t : TypeId}, isPtr P t = true → P.underlying t = some (.pointer (P.pointee t)) := by
        intro t ht
        unfold isPtr at ht
        unfold Program.pointee
        split at ht
        · rename_i e he; rw [he]
        · cases ht
      split at h
      · exact ⟨_, fun w => by rw [exec_bin ho hx hy rfl, run_eql_pointer_nil w t p (hptr h.1)]; rfl, h.2⟩
      · exact ⟨_, fun w => by rw [exec_bin ho hx hy rfl, run_neq_pointer_nil w t p (hptr h.1)]; rfl, h.2⟩
      · exact h.elim
    · exact h.elim
  case h_6 t x ho =>
    split at h
    · rename_i b hb
      exact ⟨.bool (!b), fun w => by simp [execOp, ho, hb, Op.unary, Result.andThen], h⟩
    · exact h.elim
  case h_7 x i ho =>
    split at h
    · rename_i vs hx
      split at h
      · rename_i v hv
        exact ⟨v, fun w => by simp [execOp, ho, hx, Instr.extract, hv, Result.andThen], h⟩
      · exact h.elim
    · exact h.elim
  case h_8 s x j ho =>
    split at h
    · rename_i b i hx
      split at h
      · rename_i k hk
        unfold fo at hk
        split at hk
        · rename_i fs hs
          split at hk
          · rename_i f hf
            split at hk
            · rename_i inf hi
              split at hk
              · cases hk
              · rename_i hz
                injection hk with hk
                subst hk
                refine ⟨.pointer (some ⟨b, i + f.offset, none⟩), fun w => ?_, h⟩
                simp [execOp, ho, hx, Instr.fieldAt, run_underlying hs, hf, Instr.sureAddr, fieldPlace, run_sizeOf' hi, hz, Result.andThen, Addr.add_plain]
            · cases hk
          · cases hk
        · cases hk
      · exact h.elim
    · exact h.elim
  case h_9 t x y ho =>
    split at h
    · rename_i b i n c k kk hx hy
      split at h
      · rename_i e z hz
        obtain ⟨⟨h1, h2⟩, h3⟩ := h
        unfold se at hz
        split at hz
        · rename_i e' hs
          split at hz
          · rename_i inf hi
            simp at hz
            obtain ⟨rfl, rfl⟩ := hz
            refine ⟨.pointer (some ⟨b, i + kk.toNat * inf.size, none⟩), fun w => ?_, h3⟩
            simp [execOp, ho, hx, hy, Instr.indexAt, asIntOf, run_underlying hs, h1, h2, run_sizeOf' hi, Result.andThen, Addr.add_plain]
          · cases hz
        · cases hz
      · exact h.elim
    · rename_i b i k kk hx hy
      split at h
      · rename_i n z hz
        obtain ⟨⟨h1, h2⟩, h3⟩ := h
        unfold ae at hz
        split at hz
        · rename_i n' e' hs
          split at hz
          · rename_i inf hi
            simp at hz
            obtain ⟨rfl, rfl⟩ := hz
            refine ⟨.pointer (some ⟨b, i + kk.toNat * inf.size, none⟩), fun w => ?_, h3⟩
            simp [execOp, ho, hx, hy, Instr.indexAt, Instr.sureAddr, asIntOf, run_underlying hs, h1, h2, run_sizeOf' hi, Result.andThen, Addr.add_plain]
          · cases hz
        · cases hz
      · exact h.elim
    · exact h.elim
  case h_10 t x y ho =>
    split at h
    · rename_i s k kk hx hy
      obtain ⟨h1, ⟨h2, h3⟩, h4⟩ := h
      have hs : P.underlying t = some .string := by unfold isStr at h1; split at h1 <;> simp_all
      refine ⟨.int .u8 (bt s kk.toNat), fun w => ?_, h4⟩
      have hlt : kk.toNat < s.size := by omega
      have hb : bt s kk.toNat = (s[kk.toNat].toNat : Int) := by
        unfold bt
        have : kk.toNat < s.data.toList.length := by simpa using hlt
        rw [List.getD_eq_getElem?_getD, List.getElem?_eq_getElem this]
        rfl
      simp [execOp, ho, hx, hy, Instr.index, asIntOf, run_underlying hs, h2, hlt, Result.andThen, hb]
    · exact h.elim
  case h_11 c ho =>
    split at h
    · rename_i hc
      split at h
      · rename_i s t ha ht
        obtain ⟨h1, h2⟩ := h
        have hs : P.underlying t = some .string := by unfold isStr at h1; split at h1 <;> simp_all
        refine ⟨.int .i64 s.size, fun w => ?_, h2⟩
        have hA : c.args.map (ev F) = #[.string s] := by apply Array.toList_inj.1; simpa using ha
        have hT : c.argTypes = #[t] := by apply Array.toList_inj.1; simpa using ht
        simp [execOp, ho, resolve, hc, invoke, builtin, hA, hT, Builtin.len_, run_underlying hs, Result.andThen, goInt]
      · rename_i p n cp t ha ht
        obtain ⟨h1, h2⟩ := h
        obtain ⟨e, hs⟩ : ∃ e, P.underlying t = some (.slice e) := by
          unfold se at h1
          split at h1
          · rename_i e hs; exact ⟨e, hs⟩
          · simp at h1
        refine ⟨.int .i64 n, fun w => ?_, h2⟩
        have hA : c.args.map (ev F) = #[.slice p n cp] := by apply Array.toList_inj.1; simpa using ha
        have hT : c.argTypes = #[t] := by apply Array.toList_inj.1; simpa using ht
        simp [execOp, ho, resolve, hc, invoke, builtin, hA, hT, Builtin.len_, run_underlying hs, Result.andThen, goInt]
      · exact h.elim
    · rename_i hc
      split at h
      · rename_i k x k' y ha
        have hA : c.args.map (ev F) = #[.int k x, .int k' y] := by apply Array.toList_inj.1; simpa using ha
        refine ⟨.int k (max x y), fun w => ?_, h⟩
        have hm : (if y > x then y else x) = max x y := by simp only [Int.max_def]; split <;> split <;> omega
        simp [execOp, ho, resolve, hc, invoke, builtin, hA, Builtin.max_, Builtin.max2, Result.andThen]
        exact hm
      · exact h.elim
    · rename_i hc
      split at h
      · rename_i k x k' y ha
        have hA : c.args.map (ev F) = #[.int k x, .int k' y] := by apply Array.toList_inj.1; simpa using ha
        refine ⟨.int k (min x y), fun w => ?_, h⟩
        have hm : (if y < x then y else x) = min x y := by simp only [Int.min_def]; split <;> split <;> omega
        simp [execOp, ho, resolve, hc, invoke, builtin, hA, Builtin.min_, Builtin.min2, Result.andThen]
        exact hm
      · exact h.elim
    · exact h.elim
  case h_12 t x lo hi mx ho =>
    split at h
    · rename_i s hx
      split at h
      · rename_i l hh hl hhh
        obtain ⟨h1, ⟨h2, h3, h4⟩, h5⟩ := h
        have hs : P.underlying t = some .string := by unfold isStr at h1; split at h1 <;> simp_all
        refine ⟨.string (s.extract l.toNat hh.toNat), fun w => ?_, h5⟩
        have hb := run_bounds (P := P) (w := w) (b := false) (len := s.size) (cap := s.size) hl hhh h2 h3 h4
        simp only [execOp, ho, hx, Instr.sliceAt, Sem.run_bind, run_underlying hs, Result.andThen, Instr.slice, Option.map_none, Option.isSome_none, Bool.false_eq_true, if_false, Sem.run_pure, hb]
      · exact h.elim
    · rename_i A n c hx
      split at h
      · rename_i l hh hl hhh
        split at h
        · rename_i e z hz
          obtain ⟨⟨h2, h3, h4⟩, h5⟩ := h
          unfold se at hz
          split at hz
          · rename_i e' hs
            split at hz
            · rename_i inf hi
              simp at hz
              obtain ⟨rfl, rfl⟩ := hz
              refine ⟨.slice (if (c : Int) = l then A else A.map (·.add (l.toNat * inf.size))) (hh - l).toNat (c - l).toNat, fun w => ?_, h5⟩
              have hb := run_bounds (P := P) (w := w) (b := true) (len := n) (cap := c) hl hhh h2 h3 h4
              simp only [execOp, ho, hx, Instr.sliceAt, Sem.run_bind, run_underlying hs, Result.andThen, Instr.slice, Option.map_none, Sem.run_pure, hb, run_sizeOf' hi]
              have e1 : hh.toNat - l.toNat = (hh - l).toNat := by omega
              have e2 : c - l.toNat = ((c : Int) - l).toNat := by omega
              have e3 : (c = l.toNat) = ((c : Int) = l) := by apply propext; omega
              simp only [e1, e2, e3]
            · cases hz
          · cases hz
        · exact h.elim
      · exact h.elim
    · exact h.elim
  case h_13 s d x ho =>
    split at h
    · rename_i k n hx
      split at h
      · rename_i kk hs hk
        obtain ⟨ds, hs⟩ := Option.isSome_iff_exists.1 hs
        have hd : P.underlying d = some (.int kk) := by unfold ik at hk; split at hk <;> simp_all
        exact ⟨.int kk (kk.wrap n), fun w => by simp [execOp, ho, hx, convert, run_underlying hs, run_underlying hd, Conv.intToInt, Result.andThen], h⟩
      · exact h.elim
    · exact h.elim
  case h_14 t parts ho =>
    split at h
    · rename_i pls z hpl hz
      split at h
      · rename_i cs hcs
        refine ⟨.agg cs.toArray, fun w => ?_, h⟩
        unfold places at hpl
        split at hpl
        · rename_i fs hs
          unfold zc at hz
          split at hz
          · rename_i i hi
            cases hzz : i.zero with
            | none => simp [hzz] at hz
            | some zv =>
              simp [hzz] at hz
              subst hz
              have hf := fill_V hcs
              have hm := run_places (w := w) hpl
              simp only [execOp, ho, Instr.build, Sem.run_bind, zeroValue, typeInfo, run_program, Result.andThen, hi, hzz, run_underlying hs, Sem.run_pure]
              rw [hm]
              have e2 : (parts.map fun x => (x.1, ev F x.2)).toList = parts.toList.map fun p => (p.1, ev F p.2) := by simp
              have e3 : (fun i : Nat => pls.toArray[i]?) = fun i : Nat => pls[i]? := by funext i; simp
              simp only [Result.andThen]
              rw [e3]
              have e4 : Instr.fill (fun i : Nat => pls[i]?) zv.cells (parts.map fun x => (x.1, ev F x.2)).toList = some cs.toArray := by rw [e2]; simpa using hf
              rw [e4]
              rfl
          · cases hz
        · cases hpl
      · exact h.elim
    · exact h.elim
  case h_15 => exact h.elim

/-- What a load yields. -/
def lv (P : Program) (t b i : Nat) (w : World) : Option Value := match tk P t with
  | 0 => none
  | 1 => rdc w b i
  | n + 2 => match rdn w b i n with | some vs => some (.agg vs.toArray) | none => none

theorem lv_run {P : Program} {o : Oper} {F : Fr} {w : World} {t b i : Nat} {x : Operand} {v : Value} (ho : o.op = .load t x) (hx : ev F x = .pointer (some ⟨b, i, none⟩)) (h : lv P t b i w = some v) : (execOp (ev F) o).run P w = .ok (.value v) w := by
  unfold lv at h
  split at h
  · cases h
  · rename_i ht
    simp [execOp, ho, hx, Instr.loadAt, Instr.sureAddr, Result.andThen, run_loadVar_one ht h]
  · rename_i n ht
    split at h
    · rename_i vs hv
      injection h with h; subst h
      simp [execOp, ho, hx, Instr.loadAt, Instr.sureAddr, Result.andThen, run_loadVar_agg ht hv]
    · cases h
end Go.VC
