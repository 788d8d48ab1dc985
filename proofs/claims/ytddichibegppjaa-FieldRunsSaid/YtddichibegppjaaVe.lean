/- Soundness of the calculus, operation by operation. -/
import Derived.Test.YtddichibegppjaaVd
set_option linter.unusedSimpArgs false
set_option linter.unusedVariables false
namespace Go.VC
open Go

section
variable {P : Program} {w : World}

theorem tk_one {t : Nat} (h : tk P t = 1) : ∃ d i, P.underlying t = some d ∧ P.info? t = some i ∧ (∀ fs, d ≠ .struct fs) ∧ (∀ n e, d ≠ .array n e) := by
  unfold tk at h
  split at h
  · omega
  · omega
  · rename_i d i h1 h2 h3 h4
    exact ⟨d, i, h3, h4, fun fs e => h1 fs e, fun n x e => h2 n x e⟩
  · omega

theorem tk_two {t n : Nat} (h : tk P t = n + 2) : ∃ d i, P.underlying t = some d ∧ P.info? t = some i ∧ i.size = n ∧ ((∃ fs, d = .struct fs) ∨ ∃ m e, d = .array m e) := by
  unfold tk at h
  split at h
  · rename_i fs i h1 h2; exact ⟨_, i, h1, h2, by omega, .inl ⟨fs, rfl⟩⟩
  · rename_i m e i h1 h2; exact ⟨_, i, h1, h2, by omega, .inr ⟨m, e, rfl⟩⟩
  · split at h <;> omega
  · omega

theorem run_isAgg_no {t : Nat} {d : TypeDesc} (h : P.underlying t = some d) (h1 : ∀ fs, d ≠ .struct fs) (h2 : ∀ n e, d ≠ .array n e) : (isAgg t).run P w = .ok false w := by
  simp only [isAgg, Sem.run_bind, run_underlying h, Result.andThen]
  cases d <;> first | rfl | exact absurd rfl (h1 _) | exact absurd rfl (h2 _ _)

theorem run_isAgg_yes {t : Nat} {d : TypeDesc} (h : P.underlying t = some d) (h1 : (∃ fs, d = .struct fs) ∨ ∃ m e, d = .array m e) : (isAgg t).run P w = .ok true w := by
  rcases h1 with ⟨fs, rfl⟩ | ⟨m, e, rfl⟩ <;> simp [isAgg, run_underlying h, Result.andThen]

theorem run_sizeOf' {t : Nat} {i : TypeInfo} (h : P.info? t = some i) : (sizeOf t).run P w = .ok i.size w := by
  simp [sizeOf, typeInfo, h, Result.andThen]

theorem run_loadVar_one {t b i : Nat} {v : Value} (ht : tk P t = 1) (h : rdc w b i = some v) : (loadVar t ⟨b, i, none⟩).run P w = .ok v w := by
  obtain ⟨d, j, h1, _, h3, h4⟩ := tk_one ht
  unfold rdc at h
  simp [loadVar, run_isAgg_no h1 h3 h4, Result.andThen, h]

theorem run_loadVar_agg {t b i n : Nat} {vs : List Value} (ht : tk P t = n + 2) (h : rdn w b i n = some vs) : (loadVar t ⟨b, i, none⟩).run P w = .ok (.agg vs.toArray) w := by
  obtain ⟨d, j, h1, h2, h3, h4⟩ := tk_two ht
  subst h3
  simp [loadVar, run_isAgg_yes h1 h4, Result.andThen, run_sizeOf' h2, run_loadCells_rdn h]

theorem run_storeVar_wrn {t b i : Nat} {v : Value} (ht : (P.info? t).map (·.size) = some v.cells.toList.length) (h1 : v.cells.toList.all (·.oneCell') = true) (hw : wrn w b i v.cells.toList.length) :
    (storeVar t ⟨b, i, none⟩ v).run P w = .ok () (w.setCells b i v.cells.toList) := by
  cases hi : P.info? t with
  | none => simp [hi] at ht
  | some j =>
    simp [hi] at ht
    have := run_storeCells_wrn (P := P) v.cells.toList i 0 w (by rw [List.all_eq_true] at h1; exact h1) (by rw [Nat.add_zero]; exact hw)
    simp [storeVar, run_sizeOf' hi, Result.andThen, ht, this]

end


def plainV : Value → Bool | .nilIface => false | .agg _ => false | _ => true

theorem exec_bin {P : Program} {o : Oper} {F : Fr} {w : World} {op : BinOp} {t yt : TypeId} {x y : Operand} {a b : Value} (ho : o.op = .binOp op t x y yt) (hx : ev F x = a) (hy : ev F y = b) (hg : plainV a = true) :
    (execOp (ev F) o).run P w = ((binOp op t a b).run P w).andThen fun v w' => .ok (.value v) w' := by
  have hgu : (eqGuard op t x y a b).run P w = .ok () w := by
    unfold eqGuard
    cases a <;> simp [plainV] at hg <;> simp <;> split <;> rfl
  simp only [execOp, ho, hx, hy, Sem.run_bind, hgu, Result.andThen_ok, Sem.run_pure]

section
variable {P : Program} {o : Oper} {F : Fr} {w : World} {K : Value → World → Prop} {X : List PanicEntry → World → Prop}

theorem bin_of {op : BinOp} {t yt : TypeId} {x y : Operand} {a b v : Value} {w' : World} (ho : o.op = .binOp op t x y yt) (hx : ev F x = a) (hy : ev F y = b) (hg : plainV a = true)
    (hr : (binOp op t a b).run P w = .ok v w') (h : K v w') : OpV P o F w K X :=
  .of_run (by rw [exec_bin ho hx hy hg, hr]; rfl) h

theorem ints_run {k : IntKind} {op : BinOp} {t : TypeId} {a b : Int} {v : Value} (h : ints k op a b = some v) : (binOp op t (.int k a) (.int k b)).run P w = .ok v w := by
  cases op <;> simp [ints] at h <;> try subst h
  all_goals try simp [binOp, Op.intArith, Op.intCmp]
  all_goals (obtain ⟨h1, rfl⟩ := h)
  · simp [binOp, Op.intDiv, h1]
  · simp [binOp, Op.intDiv, h1]
  · simp only [binOp, Op.shift]; rw [if_neg (by omega)]; rfl

theorem str_eql (t : TypeId) (a b : ByteArray) : (binOp .eql t (.string a) (.string b)).run P w = .ok (.bool (a.data.toList == b.data.toList)) w := by
  simp only [binOp, Op.stringOp, Sem.run_pure, ByteArray.toList_eq]
theorem str_neq (t : TypeId) (a b : ByteArray) : (binOp .neq t (.string a) (.string b)).run P w = .ok (.bool (!(a.data.toList == b.data.toList))) w := by
  simp only [binOp, Op.stringOp, Sem.run_pure, ByteArray.toList_eq]
theorem str_add (t : TypeId) (a b : ByteArray) (h : a.size + b.size ≤ 9223372036854775807) : (binOp .add t (.string a) (.string b)).run P w = .ok (.string (a ++ b)) w := by
  simp only [binOp, Op.stringOp]
  rw [if_neg (by unfold IntKind.max; simp [IntKind.bits]; omega)]
  rfl
theorem isEqB_eq {d : Option TypeDesc} (h : isEqB d = true) : d = some .bool := by unfold isEqB at h; split at h <;> simp_all

theorem ex_binOp {op : BinOp} {t yt : TypeId} {x y : Operand} (ho : o.op = .binOp op t x y yt) (h : ex P o F w K X) : OpV P o F w K X := by
  unfold ex at h
  simp only [ho] at h
  split at h
  · rename_i k a k' b hx hy
    split at h
    · rename_i hk
      subst hk
      split at h
      · rename_i v hv; exact bin_of ho hx hy rfl (ints_run hv) h
      · exact h
    · exact h
  · rename_i a b hx hy
    split at h
    · exact bin_of ho hx hy rfl (str_add t a b h.1) h.2
    · exact bin_of ho hx hy rfl (str_eql t a b) h
    · exact bin_of ho hx hy rfl (str_neq t a b) h
    · exact h
  · rename_i a b hx hy
    split at h
    · exact bin_of ho hx hy rfl (run_eql_bool w t a b (isEqB_eq h.1)) h.2
    · refine bin_of (v := .bool (!(a == b))) (w' := w) ho hx hy rfl ?_ h.2
      simp only [binOp]
      simp [run_equal_bool w t a b (isEqB_eq h.1)]
    · exact h
  · rename_i p hx hy
    have hptr : ∀ {t : TypeId}, isPtr P t = true → P.underlying t = some (.pointer (P.pointee t)) := by
      intro t ht
      unfold isPtr at ht
      unfold Program.pointee
      split at ht
      · rename_i e he; rw [he]
      · cases ht
    split at h
    · exact bin_of ho hx hy rfl (run_eql_pointer_nil w t p (hptr h.1)) h.2
    · exact bin_of ho hx hy rfl (run_neq_pointer_nil w t p (hptr h.1)) h.2
    · exact h
  · exact h

theorem fill_V {place : Nat → Option (Nat × Nat)} : ∀ {parts : List (Nat × Value)} {cells cs : List Value}, fillV place cells parts = some cs → Instr.fill place cells.toArray parts = some cs.toArray
  | [], cells, cs, h => by simp [fillV] at h; subst h; rfl
  | (i, v) :: rest, cells, cs, h => by
    simp only [fillV] at h
    split at h
    · cases h
    · rename_i off size hp
      split at h
      · rename_i hc
        have hv : v.cells.size = size := by simpa using hc.1
        simp only [Instr.fill, hp]
        rw [if_neg (by simp [hv]; omega)]
        have e : v.cells.zipIdx.foldl (fun cs (c, j) => cs.setIfInBounds (off + j) c) cells.toArray = (putAt cells off v.cells.toList).toArray := by
          have h2 := hc.2
          clear hc h
          generalize v.cells = arr at *
          obtain ⟨l⟩ := arr
          have h3 : l.length = size := hv
          have hl : off + l.length ≤ cells.length := by omega
          have key : ∀ (l : List Value) (k : Nat) (pre rest : List Value), pre.length = off + k → l.length ≤ rest.length → (l.zipIdx k).foldl (fun (cs : Array Value) (x : Value × Nat) => cs.setIfInBounds (off + x.2) x.1) (pre ++ rest).toArray = (pre ++ l ++ rest.drop l.length).toArray := by
            intro l
            induction l with
            | nil => intro k pre rest _ _; simp
            | cons a l ih =>
              intro k pre rest hk hr
              match rest, hr with
              | r :: rest, hr =>
                simp only [List.zipIdx_cons, List.foldl_cons]
                have e : (pre ++ r :: rest).toArray.setIfInBounds (off + k) a = ((pre ++ [a]) ++ rest).toArray := by
                  rw [List.setIfInBounds_toArray, ← hk]; simp
                rw [e, ih (k + 1) (pre ++ [a]) rest (by simp; omega) (by simpa using hr)]
                simp
          have := key l 0 (cells.take off) (cells.drop off) (by simp; omega) (by simp; omega)
          rw [List.take_append_drop] at this
          simp only [putAt]
          simpa using this
        simp only [e]
        exact fill_V h
      · cases h

theorem mk_eq {t e sz by_ : Nat} {z : List Value} (h : mk P t = some (e, sz, by_, z)) : ∃ i, P.underlying t = some (.slice e) ∧ P.info? e = some i ∧ (∃ zv, i.zero = some zv ∧ zv.cells.toList = z) ∧ z.length = i.size ∧ 0 < i.size := by
  unfold mk at h
  split at h
  · rename_i e' hs
    split at h
    · rename_i i hi
      split at h
      · rename_i zv hz
        split at h
        · rename_i hc
          simp at h
          obtain ⟨rfl, rfl, rfl, rfl⟩ := h
          exact ⟨i, hs, hi, ⟨zv, hz, rfl⟩, by simpa using hc.1, hc.2⟩
        · cases h
      · cases h
    · cases h
  · cases h
theorem mk_sz {t e sz by_ : Nat} {z : List Value} {i : TypeInfo} (h : mk P t = some (e, sz, by_, z)) (hi : P.info? e = some i) : sz = i.size := by
  unfold mk at h
  split at h
  · split at h
    · split at h
      · split at h
        · simp at h; obtain ⟨rfl, rfl, rfl, rfl⟩ := h; simp_all
        · cases h
      · cases h
    · cases h
  · cases h
theorem mk_by {t e sz by_ : Nat} {z : List Value} {i : TypeInfo} (h : mk P t = some (e, sz, by_, z)) (hi : P.info? e = some i) : by_ = i.bytes := by
  unfold mk at h
  split at h
  · split at h
    · split at h
      · split at h
        · simp at h; obtain ⟨rfl, rfl, rfl, rfl⟩ := h; simp_all
        · cases h
      · cases h
    · cases h
  · cases h

theorem zeros_eq (z : Array Value) (n : Nat) : (Array.range (n * z.toList.length)).map (z[· % z.size]!) = (zeros z.toList n).toArray := by
  apply Array.ext'
  obtain ⟨l⟩ := z
  simp only [Array.toList_map, Array.toList_range, zeros]
  apply List.ext_getElem?
  intro i
  by_cases hl : l.length = 0
  · have : l = [] := List.eq_nil_of_length_eq_zero hl
    subst this
    simp
  · induction n generalizing i with
    | zero => simp
    | succ n ih =>
      rw [List.replicate_succ, List.flatten_cons]
      rw [List.getElem?_map, List.getElem?_append]
      by_cases h : i < l.length
      · rw [if_pos h, List.getElem?_range (by rw [Nat.succ_mul]; omega)]
        simp [Nat.mod_eq_of_lt h, h]
      · rw [if_neg h, ← ih (i - l.length), List.getElem?_map]
        by_cases h2 : i < (n + 1) * l.length
        · rw [List.getElem?_range h2, List.getElem?_range (by rw [Nat.succ_mul] at h2; omega)]
          have : (i - l.length) % l.length = i % l.length := (Nat.mod_eq_sub_mod (by omega)).symm
          simp [this]
        · rw [List.getElem?_eq_none (by simpa using Nat.le_of_not_lt h2), List.getElem?_eq_none (by rw [Nat.succ_mul] at h2; simp; omega)]

theorem run_bounds {w : World} {b : Bool} {len cap : Nat} {lo hi : Option Operand} {F : Fr} {l h : Int} (hl : loV (lo.map (ev F)) = some l) (hh : hiV len (hi.map (ev F)) = some h) (h1 : 0 ≤ l) (h2 : l ≤ h) (h3 : h ≤ (cap : Int)) :
    (Instr.sliceBounds b len cap (lo.map (ev F)) (hi.map (ev F)) none).run P w = .ok (l.toNat, h.toNat, cap) w := by
  have sb : ∀ (k : IntKind) (x : Int) (y : Nat) (c : BoundsCode), 0 ≤ x → x ≤ (y : Int) → (Instr.sliceBound (.int k x) y c).run P w = .ok x.toNat w := by
    intro k x y c hx hy
    simp [Instr.sliceBound, asIntOf, hx, hy, Result.andThen]
  have hH : (match hi.map (ev F) with | some v => Instr.sliceBound v cap (if b then .sliceAcap else .sliceAlen) | none => pure len : Sem Nat).run P w = .ok h.toNat w := by
    cases e : hi.map (ev F) with
    | none => simp [e, hiV] at hh; subst hh; simp
    | some v =>
      rw [e] at hh
      cases v <;> simp [hiV] at hh
      subst hh
      exact sb _ _ _ _ (by omega) h3
  have hL : (match lo.map (ev F) with | some v => Instr.sliceBound v h.toNat .sliceB | none => pure 0 : Sem Nat).run P w = .ok l.toNat w := by
    cases e : lo.map (ev F) with
    | none => simp [e, loV] at hl; subst hl; simp
    | some v =>
      rw [e] at hl
      cases v <;> simp [loV] at hl
      subst hl
      exact sb _ _ _ _ h1 (by omega)
  cases e1 : hi.map (ev F) with
  | none =>
    rw [e1] at hH
    simp only [Sem.run_pure] at hH
    injection hH with hH
    subst hH
    cases e2 : lo.map (ev F) with
    | none =>
      rw [e2] at hL; simp only [Sem.run_pure] at hL; injection hL with hL
      simp [Instr.sliceBounds, Result.andThen, hL]
    | some v =>
      rw [e2] at hL; simp only at hL
      simp [Instr.sliceBounds, Result.andThen, hL]
  | some v =>
    rw [e1] at hH
    simp only at hH
    cases e2 : lo.map (ev F) with
    | none =>
      rw [e2] at hL; simp only [Sem.run_pure] at hL; injection hL with hL
      simp [Instr.sliceBounds, Result.andThen, hH, hL]
    | some v =>
      rw [e2] at hL; simp only at hL
      simp [Instr.sliceBounds, Result.andThen, hH, hL]

theorem run_places {fs : Array Field} {pls : List (Nat × Nat)} {w : World} (h : fs.toList.mapM (fun f => (P.info? f.type).map fun i => (f.offset, i.size)) = some pls) :
    (fs.mapM fun f => (do pure (f.offset, ← sizeOf f.type) : Sem (Nat × Nat))).run P w = .ok pls.toArray w := by
  obtain ⟨l⟩ := fs
  have key : ∀ (l : List Field) (pls : List (Nat × Nat)), l.mapM (fun f => (P.info? f.type).map fun i => (f.offset, i.size)) = some pls → (l.mapM fun f => (do pure (f.offset, ← sizeOf f.type) : Sem (Nat × Nat))).run P w = .ok pls w := by
    intro l
    induction l with
    | nil => intro pls h; simp at h; subst h; simp
    | cons f l ih =>
      intro pls h
      simp only [List.mapM_cons, Option.bind_eq_bind] at h
      cases e1 : P.info? f.type with
      | none => simp [e1] at h
      | some i =>
        cases e2 : l.mapM (fun f => (P.info? f.type).map fun i => (f.offset, i.size)) with
        | none => simp [e1, e2] at h
        | some us =>
          simp [e1, e2] at h
          subst h
          simp only [List.mapM_cons, Sem.run_bind, run_sizeOf' e1, Result.andThen, Sem.run_pure, ih us e2]
  have := key l pls h
  rw [List.mapM_toArray]
  simp only [Sem.run_map, this, Result.andThen]

theorem ex2_OpV (h : ex2 P o F w K X) : OpV P o F w K X := by
  unfold ex2 at h
  split at h
  case h_1 t parts ho =>
    split at h
    · rename_i pls z hpl hz
      split at h
      · rename_i cs hcs
        refine .of_run (w' := w) (v := .agg cs.toArray) ?_ h
        unfold places at hpl
        split at hpl
        · rename_i fs hs
          unfold zc at hz
          split at hz
          · rename_i i hi
            cases hzz : i.zero with
            | none => simp [hzz] at hz
            | some zv =>
              simp [hzz] at hz
              subst hz
              have hf := fill_V hcs
              have hm := run_places (w := w) hpl
              simp only [execOp, ho, Instr.build, Sem.run_bind, zeroValue, typeInfo, run_program, Result.andThen, hi, hzz, run_underlying hs, Sem.run_pure]
              rw [hm]
              have e2 : (parts.map fun x => (x.1, ev F x.2)).toList = parts.toList.map fun p => (p.1, ev F p.2) := by simp
              have e3 : (fun i : Nat => pls.toArray[i]?) = fun i : Nat => pls[i]? := by funext i; simp
              simp only [Result.andThen]
              rw [e3]
              have e4 : Instr.fill (fun i : Nat => pls[i]?) zv.cells (parts.map fun x => (x.1, ev F x.2)).toList = some cs.toArray := by rw [e2]; simpa using hf
              rw [e4]
              rfl
          · cases hz
        · cases hpl
      · exact h
    · exact h
  case h_2 t n parts ho =>
    split at h
    · rename_i e sz by_ z hm
      obtain ⟨h0, h⟩ := h
      split at h
      · rename_i cs hcs
        obtain ⟨i, hs, hi, hz, hsz, hpos⟩ := mk_eq hm
        obtain ⟨zv, hz, rfl⟩ := hz
        refine .of_run (w' := w.alloc (.cells cs.toArray e)) (v := .slice (some ⟨w.heap.size, 0, none⟩) n n) ?_ h
        have hf := fill_V hcs
        have e2 : (parts.map fun x => (x.1, ev F x.2)).toList = parts.toList.map fun p => (p.1, ev F p.2) := by simp
        have hsz' : i.size = sz := by have := mk_sz hm hi; omega
        have hzeros : (Array.range (n * i.size)).map (zv.cells[· % zv.cells.size]!) = (zeros zv.cells.toList n).toArray := by rw [← hsz]; exact zeros_eq zv.cells n
        rw [hsz'] at hzeros hpos
        rw [← e2] at hf
        by_cases hn : n * sz = 0
        · have hn0 : n = 0 := by rcases Nat.mul_eq_zero.1 hn with h | h; exact h; omega
          subst hn0
          have hz0 : (zeros zv.cells.toList 0).toArray = #[] := by simp [zeros]
          rw [hz0] at hf
          simp only [execOp, ho, Instr.buildSlice, Sem.run_bind, run_underlying hs, Result.andThen, run_sizeOf' hi, hsz', Nat.zero_mul, Nat.not_lt_zero, if_false, if_true, gt_iff_lt, Sem.run_pure]
          simp only [Array.range_zero', Array.map_empty, hf]
          simp [newRow, Result.andThen]
        · simp only [execOp, ho, Instr.buildSlice, Sem.run_bind, run_underlying hs, Result.andThen, run_sizeOf' hi, hsz']
          rw [if_neg (by omega)]
          rw [if_neg hn]
          simp only [Sem.run_bind, Sem.run_pure, Result.andThen, zeroValue, typeInfo, run_program, hi, hz, hzeros, hf]
          simp [newRow, Result.andThen]
      · exact h.elim
    · exact h.elim
  case h_3 t l c ho =>
    split at h
    · rename_i k a k' b hl hc
      split at h
      · rename_i e sz by_ z hm
        obtain ⟨⟨h1, h2, h3, h4⟩, h5⟩ := h
        obtain ⟨i, hs, hi, hz, hsz, hpos⟩ := mk_eq hm
        obtain ⟨zv, hz, rfl⟩ := hz
        have hby := mk_by hm hi
        subst hby
        have hrun := run_make (P := P) w t e i zv hs hi hz k k' a b h1 h2 h3 h4
        refine .of_run (v := .slice (some ⟨w.heap.size, 0, none⟩) a.toNat b.toNat) (w' := w.alloc (.cells (zeros zv.cells.toList b.toNat).toArray e)) ?_ h5
        have hzz : madeCells zv.cells (b.toNat * i.size) = (zeros zv.cells.toList b.toNat).toArray := by rw [← hsz]; exact zeros_eq zv.cells b.toNat
        simp only [execOp, ho, hl, hc, Sem.run_bind, hrun, Result.andThen, Sem.run_pure, hzz]
      · exact h.elim
    · exact h.elim
  case h_4 t x lo hi mx ho =>
    split at h
    · rename_i s hx
      split at h
      · rename_i l hh hl hhh
        obtain ⟨h1, ⟨h2, h3, h4⟩, h5⟩ := h
        have hs : P.underlying t = some .string := by unfold isStr at h1; split at h1 <;> simp_all
        refine .of_run (w' := w) (v := .string (s.extract l.toNat hh.toNat)) ?_ h5
        have hb := run_bounds (P := P) (w := w) (b := false) (len := s.size) (cap := s.size) hl hhh h2 h3 h4
        simp only [execOp, ho, hx, Instr.sliceAt, Sem.run_bind, run_underlying hs, Result.andThen, Instr.slice, Option.map_none, Option.isSome_none, Bool.false_eq_true, if_false, Sem.run_pure, hb]
      · exact h
    · rename_i A n c hx
      split at h
      · rename_i l hh hl hhh
        split at h
        · rename_i e z hz
          obtain ⟨⟨h2, h3, h4⟩, h5⟩ := h
          unfold se at hz
          split at hz
          · rename_i e' hs
            split at hz
            · rename_i inf hi
              simp at hz
              obtain ⟨rfl, rfl⟩ := hz
              refine .of_run (w' := w) (v := .slice (if (c : Int) = l then A else A.map (·.add (l.toNat * inf.size))) (hh - l).toNat (c - l).toNat) ?_ h5
              have hb := run_bounds (P := P) (w := w) (b := true) (len := n) (cap := c) hl hhh h2 h3 h4
              simp only [execOp, ho, hx, Instr.sliceAt, Sem.run_bind, run_underlying hs, Result.andThen, Instr.slice, Option.map_none, Sem.run_pure, hb, run_sizeOf' hi]
              have e1 : hh.toNat - l.toNat = (hh - l).toNat := by omega
              have e2 : c - l.toNat = ((c : Int) - l).toNat := by omega
              have e3 : (c = l.toNat) = ((c : Int) = l) := by apply propext; omega
              simp only [e1, e2, e3]
            · cases hz
          · cases hz
        · exact h.elim
      · exact h
    · exact h
  case h_5 s d x ho =>
    split at h
    · rename_i k n hx
      split at h
      · rename_i kk hs hk
        obtain ⟨ds, hs⟩ := Option.isSome_iff_exists.1 hs
        have hd : P.underlying d = some (.int kk) := by unfold ik at hk; split at hk <;> simp_all
        refine .of_run (w' := w) (v := .int kk (kk.wrap n)) ?_ h
        simp [execOp, ho, hx, convert, run_underlying hs, run_underlying hd, Conv.intToInt, Result.andThen]
      · exact h
    · exact h
  case h_6 => exact h
end

theorem ex_OpV {P : Program} {o : Oper} {F : Fr} {w : World} {K : Value → World → Prop} {X : List PanicEntry → World → Prop} (h : ex P o F w K X) : OpV P o F w K X := by
  have h0 := h
  unfold ex at h
  split at h
  case h_1 x ho => exact .of_run (w' := w) (v := ev F x) (by simp [execOp, ho]) h
  case h_2 x ho => exact .of_run (w' := w) (v := ev F x) (by simp [execOp, ho]) h
  case h_3 c x y ho =>
    split at h
    · rename_i b hb
      exact .of_run (w' := w) (v := if b = true then ev F x else ev F y) (by simp [execOp, ho, hb, asBool, Result.andThen]) h
    · exact h.elim
  case h_4 t ho =>
    unfold zc at h
    split at h
    · rename_i cs hz
      split at hz
      · rename_i i hi
        cases hzz : i.zero with
        | none => simp [hzz] at hz
        | some z =>
          simp [hzz] at hz
          subst hz
          exact .of_run (v := .pointer (some ⟨w.heap.size, 0, none⟩)) (w' := w.alloc (.cells z.cells t)) (by simp [execOp, ho, Instr.alloc, zeroValue, typeInfo, hi, hzz, Result.andThen, newVar, newRow]) (by simpa using h)
      · cases hz
    · exact h.elim
  case h_5 t x ho => exact .of_run (v := .pointer (some ⟨w.heap.size, 0, none⟩)) (w' := w.alloc (.cells (ev F x).cells t)) (by simp [execOp, ho, Instr.box, newVar, newRow, Result.andThen]) h
  case h_6 t x ho =>
    split at h
    · rename_i b i hx
      split at h
      · exact h.elim
      · rename_i ht
        split at h
        · rename_i v hv
          exact .of_run (w' := w) (v := v) (by simp [execOp, ho, hx, Instr.loadAt, Instr.sureAddr, Result.andThen, run_loadVar_one ht hv]) h
        · exact h.elim
      · rename_i n ht
        split at h
        · rename_i vs hv
          exact .of_run (w' := w) (v := .agg vs.toArray) (by simp [execOp, ho, hx, Instr.loadAt, Instr.sureAddr, Result.andThen, run_loadVar_agg ht hv]) h
        · exact h.elim
    · exact h.elim
  case h_7 t x y ho =>
    split at h
    · rename_i b i hx
      obtain ⟨h1, h2, h3, h4⟩ := h
      exact .of_skip (w' := w.setCells b i (ev F y).cells.toList) (by simp [execOp, ho, hx, Instr.storeAt, Instr.sureAddr, Result.andThen, run_storeVar_wrn h1 h2 h3]) h4
    · exact h.elim
  case h_8 x ho =>
    split at h
    · rename_i p hp; exact .of_run (w' := w) (v := .pointer (some p)) (by simp [execOp, ho, hp]) h
    · rename_i f a c hp; exact .of_run (w' := w) (v := .func (.func f) a c) (by simp [execOp, ho, hp]) h
    · exact h.elim
  case h_9 op t x y yt ho => exact ex_binOp ho h0
  case h_10 t x ho =>
    split at h
    · rename_i b hb
      exact .of_run (w' := w) (v := .bool (!b)) (by simp [execOp, ho, hb, Op.unary, Result.andThen]) h
    · exact h
  case h_11 x i ho =>
    split at h
    · rename_i vs hx
      split at h
      · rename_i v hv
        exact .of_run (w' := w) (v := v) (by simp [execOp, ho, hx, Instr.extract, hv, Result.andThen]) h
      · exact h.elim
    · exact h.elim
  case h_12 s x j ho =>
    split at h
    · rename_i b i hx
      split at h
      · rename_i k hk
        unfold fo at hk
        split at hk
        · rename_i fs hs
          split at hk
          · rename_i f hf
            split at hk
            · rename_i inf hi
              split at hk
              · cases hk
              · rename_i hz
                injection hk with hk
                subst hk
                refine .of_run (w' := w) (v := .pointer (some ⟨b, i + f.offset, none⟩)) ?_ h
                simp [execOp, ho, hx, Instr.fieldAt, run_underlying hs, hf, Instr.sureAddr, fieldPlace, run_sizeOf' hi, hz, Result.andThen, Addr.add_plain]
            · cases hk
          · cases hk
        · cases hk
      · exact h.elim
    · exact h.elim
  case h_13 t x y ho =>
    split at h
    · rename_i b i n c k kk hx hy
      split at h
      · rename_i e z hz
        obtain ⟨⟨h1, h2⟩, h3⟩ := h
        unfold se at hz
        split at hz
        · rename_i e' hs
          split at hz
          · rename_i inf hi
            simp at hz
            obtain ⟨rfl, rfl⟩ := hz
            refine .of_run (w' := w) (v := .pointer (some ⟨b, i + kk.toNat * inf.size, none⟩)) ?_ h3
            simp [execOp, ho, hx, hy, Instr.indexAt, asIntOf, run_underlying hs, h1, h2, run_sizeOf' hi, Result.andThen, Addr.add_plain]
          · cases hz
        · cases hz
      · exact h.elim
    · rename_i b i k kk hx hy
      split at h
      · rename_i n z hz
        obtain ⟨⟨h1, h2⟩, h3⟩ := h
        unfold ae at hz
        split at hz
        · rename_i n' e' hs
          split at hz
          · rename_i inf hi
            simp at hz
            obtain ⟨rfl, rfl⟩ := hz
            refine .of_run (w' := w) (v := .pointer (some ⟨b, i + kk.toNat * inf.size, none⟩)) ?_ h3
            simp [execOp, ho, hx, hy, Instr.indexAt, Instr.sureAddr, asIntOf, run_underlying hs, h1, h2, run_sizeOf' hi, Result.andThen, Addr.add_plain]
          · cases hz
        · cases hz
      · exact h.elim
    · exact h.elim
  case h_14 t x y ho =>
    split at h
    · rename_i s k kk hx hy
      obtain ⟨h1, ⟨h2, h3⟩, h4⟩ := h
      have hs : P.underlying t = some .string := by unfold isStr at h1; split at h1 <;> simp_all
      refine .of_run (w' := w) (v := .int .u8 (bt s kk.toNat)) ?_ h4
      have hlt : kk.toNat < s.size := by omega
      have hb : bt s kk.toNat = (s[kk.toNat].toNat : Int) := by
        unfold bt
        have : kk.toNat < s.data.toList.length := by simpa using hlt
        rw [List.getD_eq_getElem?_getD, List.getElem?_eq_getElem this]
        rfl
      simp [execOp, ho, hx, hy, Instr.index, asIntOf, run_underlying hs, h2, hlt, Result.andThen, hb]
    · exact h
  case h_15 t x ho =>
    split at h
    · exact h.elim
    · rename_i d hs hd
      refine .of_run (w' := w) (v := .iface t (ev F x)) ?_ h
      simp only [execOp, ho, Instr.makeInterface, Sem.run_bind, run_underlying hd, Result.andThen]
      cases d <;> first | rfl | (exact absurd rfl (hs _))
    · exact h.elim
  case h_16 x ho =>
    split at h
    · rename_i t v hx
      unfold OpV
      simp [execOp, ho, hx, Instr.panic, Result.andThen]
      exact h
    · exact h
  case h_17 c ho =>
    split at h
    · rename_i f hc
      have e : (List.map (ev F) c.args.toList).toArray = c.args.map (ev F) := by rw [← Array.toList_map]
      rcases h with ⟨h1, h2⟩ | ⟨v, w', h1, h2⟩
      case inr =>
        rw [e] at h1
        exact .of_run (by simp [execOp, ho, resolve, hc, ev, Deferred.ofValue, invoke, h1, Result.andThen, -Option.isNone_iff_eq_none]) h2
      unfold isCall at h1
      split at h1
      · rename_i fn hf
        simp at h1
        obtain ⟨hb, hn⟩ := h1
        have hb' : fn.body.isNone = false := by cases hq : fn.body <;> simp [hq] at hb ⊢
        unfold OpV
        have hrun : (execOp (ev F) o).run P w = .ok (.enter f (c.args.map (ev F))) w := by
          simp [execOp, ho, resolve, hc, ev, Deferred.ofValue, invoke, callFunc, hf, hn, hb', Result.andThen, -Option.isNone_iff_eq_none]
        rw [hrun]
        rw [e] at h2
        exact h2
      · cases h1
    · rename_i hc
      split at h
      · rename_i s t ha ht
        obtain ⟨h1, h2⟩ := h
        have hs : P.underlying t = some .string := by unfold isStr at h1; split at h1 <;> simp_all
        refine .of_run (w' := w) (v := .int .i64 s.size) ?_ h2
        have hA : c.args.map (ev F) = #[.string s] := by apply Array.toList_inj.1; simpa using ha
        have hT : c.argTypes = #[t] := by apply Array.toList_inj.1; simpa using ht
        simp [execOp, ho, resolve, hc, invoke, builtin, hA, hT, Builtin.len_, run_underlying hs, Result.andThen, goInt]
      · rename_i p n cp t ha ht
        obtain ⟨h1, h2⟩ := h
        obtain ⟨e, hs⟩ : ∃ e, P.underlying t = some (.slice e) := by
          unfold se at h1
          split at h1
          · rename_i e hs; exact ⟨e, hs⟩
          · simp at h1
        refine .of_run (w' := w) (v := .int .i64 n) ?_ h2
        have hA : c.args.map (ev F) = #[.slice p n cp] := by apply Array.toList_inj.1; simpa using ha
        have hT : c.argTypes = #[t] := by apply Array.toList_inj.1; simpa using ht
        simp [execOp, ho, resolve, hc, invoke, builtin, hA, hT, Builtin.len_, run_underlying hs, Result.andThen, goInt]
      · exact h
    · rename_i hc
      split at h
      · rename_i k x k' y ha
        have hA : c.args.map (ev F) = #[.int k x, .int k' y] := by apply Array.toList_inj.1; simpa using ha
        refine .of_run (w' := w) (v := .int k (max x y)) ?_ h
        have hm : (if y > x then y else x) = max x y := by simp only [Int.max_def]; split <;> split <;> omega
        simp [execOp, ho, resolve, hc, invoke, builtin, hA, Builtin.max_, Builtin.max2, Result.andThen]
        exact hm
      · exact h
    · rename_i hc
      split at h
      · rename_i k x k' y ha
        have hA : c.args.map (ev F) = #[.int k x, .int k' y] := by apply Array.toList_inj.1; simpa using ha
        refine .of_run (w' := w) (v := .int k (min x y)) ?_ h
        have hm : (if y < x then y else x) = min x y := by simp only [Int.min_def]; split <;> split <;> omega
        simp [execOp, ho, resolve, hc, invoke, builtin, hA, Builtin.min_, Builtin.min2, Result.andThen]
        exact hm
      · exact h
    · exact h
  case h_18 => exact ex2_OpV h
end Go.VC
