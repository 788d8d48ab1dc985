/- The calculus over code: regions in the text's order, sequences, tests, blocks, loops, results. -/
import Derived.Test.YtddichibegppjaaVe
set_option linter.unusedSimpArgs false
set_option linter.unusedVariables false
namespace Go.VC
open Go

def dok (n : Nat) (d : Option Nat) : Prop := match d with | none => True | some i => i < n
theorem dok_spec {n : Nat} {d : Option Nat} (h : dok n d) : ∀ i, d = some i → i < n := by intro i e; subst e; exact h

/-- What a guard's operation yielded. -/
def gv (all : List Oper) (j : Nat) (F : Fr) : Value := match all[j]? with | some o => (match o.dst with | some d => F d | none => .nilFunc) | none => .nilFunc

/-- What follows behind a guard. -/
def gsel (b want : Bool) (A C : Prop) (_ : Tok (A, C) := .mk) : Prop := (b = want → A) ∧ (b = !want → C)
theorem gsel.mk {b want : Bool} {A C : Prop} (h1 : b = want → A) (h2 : b = !want → C) : gsel b want A C := ⟨h1, h2⟩
theorem gsel_tt (A C : Prop) : gsel true true A C = A := by simp [gsel]
theorem gsel_ff (A C : Prop) : gsel false false A C = A := by simp [gsel]
theorem gsel_tf (A C : Prop) : gsel true false A C = C := by simp [gsel]
theorem gsel_ft (A C : Prop) : gsel false true A C = C := by simp [gsel]

def exL (P : Program) (all : List Oper) : (l : List Oper) → Fr → World → (K : Fr → World → Prop) → (X : Fr → List PanicEntry → World → Prop) → (_ : Tok (all, l, K, X) := .mk) → Prop
  | [], F, w, K, _, _ => K F w
  | o :: rest, F, w, K, X, _ => match o.guard with
    | none => ex P o F w (fun v w' => exL P all rest (put F o.dst v) w' K X) (X F)
    | some (j, want) => match gv all j F with
      | .bool b => gsel b want (ex P o F w (fun v w' => exL P all rest (put F o.dst v) w' K X) (X F)) (exL P all rest (put F o.dst undef) w K X)
      | .tuple _ => exL P all rest (put F o.dst undef) w K X
      | _ => False

/-- What a function hands back, of its frame and memory. -/
def resV (P : Program) (w : World) (F : Fr) : ResultVar → Option Value
  | .tmp t => some (F t)
  | .cell a t => match F a with
    | .pointer (some ⟨b, i, none⟩) => match tk P t with
      | 0 => none
      | 1 => rdc w b i
      | n + 2 => (rdn w b i n).map fun vs => .agg vs.toArray
    | _ => none

theorem wanted_gv {n ds F a} (h : Rep n ds F a) {all : List Oper} {o : Oper} {j : Nat} {want b : Bool} (hg : o.guard = some (j, want)) (hb : gv all j F = .bool b) (hall : ∀ o' ∈ all, dok n o'.dst) :
    Region.wanted o (yielded all.toArray a.tmps) = (b == want) := by
  unfold Region.wanted
  simp only [hg]
  unfold gv at hb
  split at hb
  · rename_i o' ho'
    split at hb
    · rename_i d hd
      have hlt : d < a.tmps.size := by rw [h.size]; have := hall o' (List.mem_of_getElem? ho'); rw [hd] at this; exact this
      have h1 := h.at_ d
      rw [Array.getD_eq_getD_getElem?, Array.getElem?_eq_getElem hlt] at h1
      have : yielded all.toArray a.tmps j = some b := by
        unfold yielded
        simp only [List.getElem?_toArray, ho', Option.bind_some, hd, Array.getElem?_eq_getElem hlt]
        simp at h1
        rw [h1, hb]
      rw [this]
      cases b <;> cases want <;> rfl
    · cases hb
  · cases hb

theorem wanted_gv0 {n ds F a} (h : Rep n ds F a) {all : List Oper} {o : Oper} {j : Nat} {want : Bool} {vs : Array Value} (hg : o.guard = some (j, want)) (hb : gv all j F = .tuple vs) (hall : ∀ o' ∈ all, dok n o'.dst) :
    Region.wanted o (yielded all.toArray a.tmps) = false := by
  unfold Region.wanted
  simp only [hg]
  unfold gv at hb
  split at hb
  · rename_i o' ho'
    split at hb
    · rename_i d hd
      have hlt : d < a.tmps.size := by rw [h.size]; have := hall o' (List.mem_of_getElem? ho'); rw [hd] at this; exact this
      have h1 := h.at_ d
      rw [Array.getD_eq_getD_getElem?, Array.getElem?_eq_getElem hlt] at h1
      have : yielded all.toArray a.tmps j = none := by
        unfold yielded
        simp only [List.getElem?_toArray, ho', Option.bind_some, hd, Array.getElem?_eq_getElem hlt]
        simp at h1
        rw [h1, hb]
      rw [this]
      cases want <;> rfl
    · cases hb
  · cases hb

theorem exL_sound {P : Program} {n : Nat} {ds : List Deferred} {all : List Oper} {Q : Exit → Act → World → Prop} (hall : ∀ o ∈ all, dok n o.dst) : ∀ (l : List Oper) (_ : ∀ o ∈ l, dok n o.dst) (F : Fr) (w : World) (a : Act) (K : Fr → World → Prop) (X : Fr → List PanicEntry → World → Prop),
    exL P all l F w K X → Rep n ds F a → (∀ F' a' w', K F' w' → Rep n ds F' a' → Q .normal a' w') → (∀ F' a' ch w', X F' ch w' → Rep n ds F' a' → Q (.panic ch) a' w') → wpList P all.toArray Q l a w
  | [], _, F, w, a, K, X, h, hr, hK, _ => hK _ _ _ h hr
  | o :: rest, hl, F, w, a, K, X, h, hr, hK, hX => by
    have hd := hl o (by simp)
    have hrest : ∀ o ∈ rest, dok n o.dst := fun o ho => hl o (by simp [ho])
    unfold exL at h
    have step : ex P o F w (fun v w' => exL P all rest (put F o.dst v) w' K X) (X F) → o.wp P a w (wpList P all.toArray Q rest) Q := fun h =>
      (ex_OpV h).sound hr.ev (fun v w' hv => exL_sound hall rest hrest _ _ _ K X hv (hr.put (dok_spec hd) v) hK hX) (fun ch w' hx => hX _ _ _ _ hx hr)
    unfold wpList
    split at h
    · rename_i hg
      rw [if_pos (by simp [Region.wanted, hg])]
      exact .inl (step h)
    · rename_i j want hg
      split at h
      · rename_i b hb
        rw [wanted_gv hr hg hb hall]
        by_cases e : b = want
        · rw [if_pos (by simp [e])]; exact .inl (step (h.1 e))
        · rw [if_neg (by simp [e])]
          exact exL_sound hall rest hrest _ _ _ K X (h.2 (by cases b <;> cases want <;> simp_all)) (hr.put (dok_spec hd) undef) hK hX
      · rename_i vs hb
        rw [wanted_gv0 hr hg hb hall, if_neg (by simp)]
        exact exL_sound hall rest hrest _ _ _ K X h (hr.put (dok_spec hd) undef) hK hX
      · exact h.elim

/-- Code, from a frame. -/
def Wp (P : Program) (n : Nat) (ds : List Deferred) (c : Code) (F : Fr) (w : World) (Q : Exit → Fr → World → Prop) (_ : Tok (c, Q) := .mk) : Prop :=
  ∀ a, Rep n ds F a → c.wp P (fun e a' w' => ∃ F', Rep n ds F' a' ∧ Q e F' w') a w

section
variable {P : Program} {n : Nat} {ds : List Deferred} {F : Fr} {w : World} {Q : Exit → Fr → World → Prop}

def thenQ (K : Fr → World → Prop) (Q : Exit → Fr → World → Prop) (_ : Tok (K, Q) := .mk) : Exit → Fr → World → Prop
  | .normal, F, w => K F w
  | e, F, w => Q e F w
def blockQ (id : Nat) (Q : Exit → Fr → World → Prop) (_ : Tok Q := .mk) : Exit → Fr → World → Prop
  | .exit i, F, w => if i = id then Q .normal F w else Q (.exit i) F w
  | e, F, w => Q e F w

theorem Wp.mono {c : Code} {Q' : Exit → Fr → World → Prop} (h : Wp P n ds c F w Q) (hq : ∀ e F w, Q e F w → Q' e F w) : Wp P n ds c F w Q' :=
  fun a hr => Go.wp_mono (h a hr) fun _ _ _ ⟨F', r, q⟩ => ⟨F', r, hq _ _ _ q⟩

theorem Wp.region {id : Nat} {l : List Oper} (hall : l.all (fun o => match o.dst with | some d => decide (d < n) | none => true) = true)
    (h : exL P l l F w (Q .normal) (fun F ch w => Q (.panic ch) F w)) : Wp P n ds (.region id l.toArray false) F w Q := by
  intro a hr
  have hd : ∀ o ∈ l, dok n o.dst := by
    intro o ho
    have := List.all_eq_true.1 hall o ho
    unfold dok
    split <;> simp_all
  exact wp_region_lit (exL_sound (ds := ds) (all := l) hd l hd F w a _ _ h hr (fun F' a' w' k r => ⟨F', r, k⟩) (fun F' a' ch w' k r => ⟨F', r, k⟩))

theorem Wp.seq {x y : Code} (h : Wp P n ds x F w (thenQ (fun F w => Wp P n ds y F w Q) Q)) : Wp P n ds (.seq x y) F w Q := by
  intro a hr
  refine wp_seq (Go.wp_mono (h a hr) fun e a' w' ⟨F', r, q⟩ => ?_)
  cases e <;> first | exact q a' r | exact ⟨F', r, q⟩

theorem Wp.block {id : Nat} {c : Code} (h : Wp P n ds c F w (blockQ id Q)) : Wp P n ds (.block id c) F w Q := by
  intro a hr
  refine wp_block (Go.wp_mono (h a hr) fun e a' w' ⟨F', r, q⟩ => ?_)
  cases e <;> try exact ⟨F', r, q⟩
  rename_i i
  simp only [Exit.inBlock, blockQ] at q ⊢
  split
  · rename_i e; rw [if_pos e] at q; exact ⟨F', r, q⟩
  · rename_i e; rw [if_neg e] at q; exact ⟨F', r, q⟩

theorem Wp.cond {c : Operand} {x y : Code} {b : Bool} (hc : ev F c = .bool b) (ht : b = true → Wp P n ds x F w Q) (hf : b = false → Wp P n ds y F w Q) : Wp P n ds (.cond c x y) F w Q := by
  intro a hr
  exact wp_cond_split (t := b) (by rw [hr.ev]; exact hc) (fun e => ht e a hr) (fun e => hf e a hr)

theorem Wp.skip (h : Q .normal F w) : Wp P n ds .skip F w Q := fun _ hr => wp_skip ⟨F, hr, h⟩
theorem Wp.ret (h : Q .ret F w) : Wp P n ds .ret F w Q := fun _ hr => wp_ret ⟨F, hr, h⟩
theorem Wp.exit {id : Nat} (h : Q (.exit id) F w) : Wp P n ds (.exit id) F w Q := fun _ hr => wp_exit ⟨F, hr, h⟩

/-- A round's end: the relation, of some later state. -/
def Again {α : Type} (I : α → Fr → World → Prop) (μ : α → Nat) (x : α) (_ : Tok (I, μ, x) := .mk) (F : Fr) (w : World) : Prop := ∃ x', I x' F w ∧ μ x' < μ x
theorem Again.mk {α : Type} {I : α → Fr → World → Prop} {μ : α → Nat} {x : α} {F : Fr} {w : World} (x' : α) (h : I x' F w) (hm : μ x' < μ x) : Again I μ x .mk F w := ⟨x', h, hm⟩

/-- A loop: what holds of the frame and of memory at its head, of some state; a number that falls. -/
theorem Wp.loop {α : Type} {c : Code} (I : α → Fr → World → Prop) (μ : α → Nat) (x0 : α) (h0 : I x0 F w)
    (round : ∀ x F w, I x F w → Wp P n ds c F w (thenQ (Again I μ x) Q)) : Wp P n ds (.loop c) F w Q := by
  intro a hr
  have key : ∀ m x, μ x = m → ∀ F w a, I x F w → Rep n ds F a → ∀ (b : Frame) (k : List Item) (cs : List Frame),
      ∃ e a' w', (∃ F', Rep n ds F' a' ∧ Q e F' w') ∧ Arrives P (lone (b.at a (.code c :: .inLoop c :: k)) cs w) b k cs e a' w' := by
    intro m
    induction m using Nat.strongRecOn with
    | _ m ih =>
      intro x hm F w a hI hr b k cs
      obtain ⟨e, a₁, w₁, ⟨F₁, hr₁, hq⟩, harr⟩ := round x F w hI a hr b (.inLoop c :: k) cs
      cases e with
      | normal =>
        obtain ⟨x', hI', hlt⟩ := hq
        obtain ⟨e₂, a₂, w₂, hq₂, harr₂⟩ := ih (μ x') (hm ▸ hlt) x' rfl F₁ w₁ a₁ hI' hr₁ b k cs
        exact ⟨e₂, a₂, w₂, hq₂, .of_steps (Steps.trans harr (.one step_inLoop)) harr₂⟩
      | exit id => exact ⟨_, a₁, w₁, ⟨F₁, hr₁, hq⟩, .pass (x := .inLoop c) rfl (fun _ _ => .inl (by simp)) harr⟩
      | goto l => exact ⟨_, a₁, w₁, ⟨F₁, hr₁, hq⟩, .pass (x := .inLoop c) rfl (fun _ _ => .inl (by simp)) harr⟩
      | ret => exact ⟨_, a₁, w₁, ⟨F₁, hr₁, hq⟩, .pass (x := .inLoop c) rfl (fun _ _ => .inl (by simp)) harr⟩
      | panic ch => exact ⟨_, a₁, w₁, ⟨F₁, hr₁, hq⟩, .pass (x := .inLoop c) rfl (fun _ _ => .inl (by simp)) harr⟩
      | outgrown => exact ⟨_, a₁, w₁, ⟨F₁, hr₁, hq⟩, .pass (x := .inLoop c) rfl (fun _ _ => .inl (by simp)) harr⟩
  intro b k cs
  obtain ⟨e, a', w', hq, harr⟩ := key _ x0 rfl F w a h0 hr b k cs
  exact ⟨e, a', w', hq, .of_steps (.one step_loop) harr⟩

/-- What a function's body must leave. -/
def resVs (P : Program) (w : World) (F : Fr) (rs : List ResultVar) : Option Value :=
  match rs with
  | [] => some (.tuple #[])
  | [r] => resV P w F r
  | _ => (rs.mapM (resV P w F)).map fun vs => .tuple vs.toArray
def Ret (R : Ending → World → Prop) (v : Value) (w : World) (_ : Tok R := .mk) : Prop := R (.returned v) w
theorem Ret.mk {R : Ending → World → Prop} {v : Value} {w : World} (h : R (.returned v) w) : Ret R v w := h
def Pan (R : Ending → World → Prop) (ch : List PanicEntry) (w : World) (_ : Tok R := .mk) : Prop := R (.panicked ch) w
theorem Pan.mk {R : Ending → World → Prop} {ch : List PanicEntry} {w : World} (h : R (.panicked ch) w) : Pan R ch w := h
def post (P : Program) (rs : List ResultVar) (R : Ending → World → Prop) (_ : Tok (rs, R) := .mk) : Exit → Fr → World → Prop
  | .normal, F, w | .ret, F, w => match resVs P w F rs with | some v => Ret R v w | none => False
  | .panic ch, _, w => Pan R ch w
  | _, _, _ => False


def resS (tmps : Array Value) : ResultVar → Sem Value
  | .tmp t => pure (tmps.getD t undef)
  | .cell a t => do loadVar t (← asAddr (tmps.getD a undef))

theorem run_resV {n ds F a} (hr : Rep n ds F a) {w : World} {r : ResultVar} {v : Value} (h : resV P w F r = some v) : (resS a.tmps r).run P w = .ok v w := by
  cases r with
  | tmp t => simp [resV] at h; simp only [resS, hr.at_, h, Sem.run_pure]
  | cell x t =>
    simp only [resV] at h
    split at h
    · rename_i b i hx
      simp only [resS, hr.at_, hx, asAddr, Sem.run_bind, Sem.run_pure, Result.andThen]
      split at h
      · cases h
      · rename_i ht; exact run_loadVar_one ht h
      · rename_i m ht
        cases hv : rdn w b i m with
        | none => simp [hv] at h
        | some vs => simp [hv] at h; subst h; exact run_loadVar_agg ht hv
    · cases h

theorem run_resVs {n ds F a} (hr : Rep n ds F a) {w : World} : ∀ {rs : List ResultVar} {vs : List Value}, rs.mapM (resV P w F) = some vs → (rs.mapM (resS a.tmps)).run P w = .ok vs w
  | [], vs, h => by simp at h; subst h; simp
  | r :: rs, vs, h => by
    simp only [List.mapM_cons, Option.bind_eq_bind] at h
    cases h1 : resV P w F r with
    | none => simp [h1] at h
    | some v =>
      cases h2 : rs.mapM (resV P w F) with
      | none => simp [h1, h2] at h
      | some us =>
        simp [h1, h2] at h
        subst h
        simp [List.mapM_cons, run_resV hr h1, run_resVs hr h2, Result.andThen]

theorem mapM_len {α β : Type} {f : α → Option β} : ∀ {l : List α} {vs : List β}, l.mapM f = some vs → vs.length = l.length
  | [], vs, h => by simp at h; subst h; rfl
  | r :: l, vs, h => by
    simp only [List.mapM_cons, Option.bind_eq_bind] at h
    cases e1 : f r with
    | none => simp [e1] at h
    | some v =>
      cases e2 : l.mapM f with
      | none => simp [e1, e2] at h
      | some us => simp [e1, e2] at h; subst h; simp [mapM_len e2]

theorem run_results {n ds F a} (hr : Rep n ds F a) {w : World} {fn : Func} {rs : List ResultVar} {v : Value} (hf : fn.results = rs.toArray) (h : resVs P w F rs = some v) : (results fn a.tmps).run P w = .ok v w := by
  have hm : ∀ vs, rs.mapM (resV P w F) = some vs → (results fn a.tmps).run P w = .ok (if h : vs.toArray.size = 1 then vs.toArray[0] else .tuple vs.toArray) w := by
    intro vs hv
    have h1 := run_resVs hr hv
    have e : results fn a.tmps = (do let vs ← rs.toArray.mapM (resS a.tmps); pure (if h : vs.size = 1 then vs[0] else .tuple vs)) := by
      unfold results
      rw [hf]
      rfl
    rw [e]
    simp [h1, Result.andThen]
  unfold resVs at h
  split at h
  · have := hm [] (by simp)
    simp at h
    subst h
    simpa using this
  · rename_i r
    have := hm [v] (by simp [h])
    simpa using this
  · rename_i h1 h2
    cases hv : rs.mapM (resV P w F) with
    | none => simp [hv] at h
    | some vs =>
      simp [hv] at h
      subst h
      have := hm vs hv
      have hl : vs.length = rs.length := mapM_len hv
      rw [dif_neg] at this
      · exact this
      · intro hc
        have h3 : rs.length = 1 := by simpa [hl] using hc
        obtain ⟨r, hr⟩ := List.length_eq_one_iff.1 h3
        exact h2 r hr

theorem post_sound {n F a} (hr : Rep n [] F a) {w : World} {fn : Func} {rs : List ResultVar} (hf : fn.results = rs.toArray) {R : Ending → World → Prop} {e : Exit} (h : post P rs R .mk e F w) : bodyPost P fn R e a w := by
  cases e <;> simp only [post] at h <;> try exact h.elim
  · split at h
    · rename_i v hv; exact ⟨hr.defs, v, run_results hr hf hv, h⟩
    · exact h.elim
  · split at h
    · rename_i v hv; exact ⟨hr.defs, v, run_results hr hf hv, h⟩
    · exact h.elim
  · exact ⟨hr.defs, h⟩

/-- The frame at a call's beginning. -/
def arg (l : List Value) : Fr := fun i => l.getD i undef

theorem enter {n : Nat} {f : FuncId} {fn : Func} {c : Code} {rs : List ResultVar} {args : List Value} {R : Ending → World → Prop} (hf : P.funcs[f]? = some fn) (hb : fn.body = some c) (hrs : fn.results = rs.toArray)
    (hm : fn.ntmps = n) (hn : args.length ≤ n) (h : Wp P n [] c (arg args) w (post P rs R)) : Calls P f args.toArray w R := by
  subst hm
  refine calls_of_wp hf hb (Go.wp_mono (h _ ⟨?_, rfl, fun i => ?_⟩) fun e a' w' ⟨F', r, q⟩ => post_sound r hrs q)
  · simp; omega
  · simp only [Array.getD_eq_getD_getElem?, arg, List.getD_eq_getElem?_getD]
    by_cases hi : i < args.length
    · rw [Array.getElem?_append_left (by simpa using hi)]; simp
    · rw [Array.getElem?_append_right (by simpa using Nat.le_of_not_lt hi)]
      rw [List.getElem?_eq_none (by omega)]
      simp [Array.getElem?_replicate]
      split <;> rfl
end
attribute [irreducible] Again Ret Pan
end Go.VC
