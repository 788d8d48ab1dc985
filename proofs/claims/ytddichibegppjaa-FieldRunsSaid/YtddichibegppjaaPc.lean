/- Steps that are reached; the longest match. Plain. -/
import Derived.Test.YtddichibegppjaaPa
set_option linter.unusedSimpArgs false
set_option linter.unusedVariables false
namespace Go.Proofs.Ytddichibegppjaa
open Go Go.VC

/-- A move without a byte, at a place of a text of so many bytes. -/
def Eps (M : List St4) (i n x y : Nat) : Prop := ∃ st, M[x]? = some st ∧ ((st.kind = 1 ∧ (y = st.a ∨ y = st.b)) ∨ (st.kind = 2 ∧ i = 0 ∧ y = st.a) ∨ (st.kind = 3 ∧ i = n ∧ y = st.a))
inductive EpsR (M : List St4) (i n x : Nat) : Nat → Prop
  | refl : EpsR M i n x x
  | step {y z : Nat} : EpsR M i n x y → Eps M i n y z → EpsR M i n x z
def Leaf (M : List St4) (x : Nat) : Prop := ∃ st, M[x]? = some st ∧ (st.kind = 0 ∨ st.kind = 4)
def Dn (M : List St4) (x : Nat) : Prop := ∃ st, M[x]? = some st ∧ st.kind = 4
/-- It eats the byte there. -/
def Eat (M : List St4) (l : List UInt8) (i x y : Nat) : Prop := ∃ st, M[x]? = some st ∧ st.kind = 0 ∧ i < l.length ∧ st.set.getD (byteAt l i).toNat false = true ∧ y = st.a
/-- What is reached from a step at a place. -/
inductive Rc (M : List St4) (l : List UInt8) (k0 i0 : Nat) : Nat → Nat → Prop
  | refl : Rc M l k0 i0 k0 i0
  | eps {k k' i : Nat} : Rc M l k0 i0 k i → Eps M i l.length k k' → Rc M l k0 i0 k' i
  | eat {k k' i : Nat} : Rc M l k0 i0 k i → Eat M l i k k' → Rc M l k0 i0 k' (i + 1)

section
variable {M : List St4} {l : List UInt8} {k0 i0 k i f n : Nat}

theorem Rc.ge (h : Rc M l k0 i0 k i) : i0 ≤ i := by
  induction h with
  | refl => exact Nat.le_refl _
  | eps _ _ ih => exact ih
  | eat _ _ ih => omega
theorem Rc.epsR (h : Rc M l k0 i0 k i) {k' : Nat} (h2 : EpsR M i l.length k k') : Rc M l k0 i0 k' i := by
  induction h2 with
  | refl => exact h
  | step _ h3 ih => exact ih.eps h3
theorem Rc.acc (h : Rc M l k0 i0 k i) : ∀ n, Acc M l k i f n → ∃ n', Acc M l k0 i0 f n' := by
  induction h with
  | refl => intro n h; exact ⟨n, h⟩
  | eps _ h2 ih =>
    intro n h
    obtain ⟨st, h3, (⟨h4, rfl | rfl⟩ | ⟨h4, h5, rfl⟩ | ⟨h4, h5, rfl⟩)⟩ := h2
    · exact ih _ (.forkA h3 h4 h)
    · exact ih _ (.forkB h3 h4 h)
    · exact ih _ (.first h3 h4 h5 h)
    · exact ih _ (.last h3 h4 h5 h)
  | eat _ h2 ih =>
    intro n h
    obtain ⟨st, h3, h4, h5, h6, rfl⟩ := h2
    exact ih _ (.eat h3 h4 h5 h6 h)
theorem acc_rc {k i f n : Nat} (h : Acc M l k i f n) : Rc M l k0 i0 k i → ∃ d, Rc M l k0 i0 d f ∧ Dn M d := by
  induction h with
  | done h1 h2 => intro h; exact ⟨_, h, _, h1, h2⟩
  | eat h1 h2 h3 h4 _ ih => intro h; exact ih (h.eat ⟨_, h1, h2, h3, h4, rfl⟩)
  | forkA h1 h2 _ ih => intro h; exact ih (h.eps ⟨_, h1, .inl ⟨h2, .inl rfl⟩⟩)
  | forkB h1 h2 _ ih => intro h; exact ih (h.eps ⟨_, h1, .inl ⟨h2, .inr rfl⟩⟩)
  | first h1 h2 h3 _ ih => intro h; exact ih (h.eps ⟨_, h1, .inr (.inl ⟨h2, h3, rfl⟩)⟩)
  | last h1 h2 h3 _ ih => intro h; exact ih (h.eps ⟨_, h1, .inr (.inr ⟨h2, h3, rfl⟩)⟩)
/-- The end is reached just where there is a way to it. -/
theorem acc_iff : (∃ n, Acc M l k0 i0 f n) ↔ ∃ d, Rc M l k0 i0 d f ∧ Dn M d := by
  constructor
  · rintro ⟨n, h⟩; exact acc_rc h .refl
  · rintro ⟨d, h, st, h1, h2⟩; exact h.acc 0 (.done h1 h2)

/-- What is reached at the next place: behind a byte that was eaten. -/
theorem Rc.next (hi : i0 ≤ i) : Rc M l k0 i0 k (i + 1) ↔ ∃ x y, Rc M l k0 i0 x i ∧ Eat M l i x y ∧ EpsR M (i + 1) l.length y k := by
  constructor
  · intro h
    generalize hj : i + 1 = j at h
    induction h with
    | refl => omega
    | eps _ h2 ih =>
      subst hj
      obtain ⟨x, y, h3, h4, h5⟩ := ih rfl
      exact ⟨x, y, h3, h4, h5.step h2⟩
    | eat h1 h2 ih =>
      obtain rfl : i = _ := Nat.succ.inj hj
      exact ⟨_, _, h1, h2, .refl⟩
  · rintro ⟨x, y, h1, h2, h3⟩
    exact (h1.eat h2).epsR h3
theorem Rc.here : Rc M l k0 i0 k i0 ↔ EpsR M i0 l.length k0 k := by
  constructor
  · have key : ∀ {k j : Nat}, Rc M l k0 i0 k j → j = i0 → EpsR M i0 l.length k0 k := by
      intro k j h
      induction h with
      | refl => intro _; exact .refl
      | eps _ h2 ih => intro e; rw [e] at h2; exact (ih e).step h2
      | eat h1 _ _ => intro e; have := h1.ge; omega
    exact fun h => key h rfl
  · intro h; exact Rc.refl.epsR h
/-- Where no leaf is reached, nothing is reached behind. -/
theorem Rc.stop (hi : i0 ≤ i) (h : ∀ x, Rc M l k0 i0 x i → ¬ Leaf M x) : ∀ d k, ¬ Rc M l k0 i0 k (i + 1 + d) := by
  intro d
  induction d with
  | zero =>
    intro k hk
    obtain ⟨x, y, h1, ⟨st, h2, h3, _⟩, _⟩ := (Rc.next hi).1 hk
    exact h x h1 ⟨st, h2, .inl h3⟩
  | succ d ih =>
    intro k hk
    obtain ⟨x, y, h1, _⟩ := (Rc.next (i := i + 1 + d) (by omega)).1 hk
    exact ih x h1
theorem Rc.le (hi : i0 ≤ l.length) (h : Rc M l k0 i0 k i) : i ≤ l.length := by
  induction h with
  | refl => exact hi
  | eps _ _ ih => exact ih
  | eat _ h2 ih => obtain ⟨st, _, _, h3, _⟩ := h2; omega
theorem Ws.eps {M : List St4} (hw : Ws M) {i n x y : Nat} (h : Eps M i n x y) : y < M.length := by
  obtain ⟨st, h1, h2⟩ := h
  have := hw x st h1
  rcases h2 with ⟨_, rfl | rfl⟩ | ⟨_, _, rfl⟩ | ⟨_, _, rfl⟩ <;> omega

/-- The longest match from a place: its end, or that there is none. -/
def Lg (M : List St4) (l : List UInt8) (k0 i0 e : Nat) (ok : Bool) : Prop :=
  (ok = true → (∃ d, Rc M l k0 i0 d e ∧ Dn M d) ∧ ∀ f d, Rc M l k0 i0 d f → Dn M d → f ≤ e) ∧ (ok = false → e = 0 ∧ ∀ f d, Rc M l k0 i0 d f → ¬ Dn M d)
end

/-- The longest match that ends ahead of a place. -/
def Lp (M : List St4) (l : List UInt8) (k0 i0 i e : Nat) (ok : Bool) : Prop :=
  (ok = true → (∃ d, Rc M l k0 i0 d e ∧ Dn M d) ∧ ∀ f d, f < i → Rc M l k0 i0 d f → Dn M d → f ≤ e) ∧ (ok = false → e = 0 ∧ ∀ f d, f < i → Rc M l k0 i0 d f → ¬ Dn M d)
section
variable {M : List St4} {l : List UInt8} {k0 i0 i e : Nat} {ok : Bool} {at_ : List Nat}
theorem Lp.start : Lp M l k0 i0 i0 0 false := ⟨fun h => (by cases h), fun _ => ⟨rfl, fun f d hf h _ => by have := h.ge; omega⟩⟩
theorem Lp.next {dn : Bool} (h : Lp M l k0 i0 i e ok) (hat : ∀ x, x ∈ at_ ↔ Rc M l k0 i0 x i ∧ Leaf M x) (hdn : dn = true ↔ ∃ k ∈ at_, Dn M k) : Lp M l k0 i0 (i + 1) (if dn = true then i else e) (ok || dn) := by
  have hleaf : ∀ {x}, Dn M x → Leaf M x := fun ⟨st, h1, h2⟩ => ⟨st, h1, .inr h2⟩
  cases dn with
  | true =>
    obtain ⟨k, hk, hd⟩ := hdn.1 rfl
    rw [if_pos rfl, Bool.or_true]
    exact ⟨fun _ => ⟨⟨k, ((hat k).1 hk).1, hd⟩, fun f d hf _ _ => by omega⟩, fun h => by cases h⟩
  | false =>
    rw [if_neg (by simp), Bool.or_false]
    have hno : ∀ d, Rc M l k0 i0 d i → ¬ Dn M d := fun d hr hd => by have := hdn.2 ⟨d, (hat d).2 ⟨hr, hleaf hd⟩, hd⟩; cases this
    refine ⟨fun hk => ⟨(h.1 hk).1, fun f d hf hr hd => ?_⟩, fun hk => ⟨(h.2 hk).1, fun f d hf hr hd => ?_⟩⟩
    · rcases Nat.lt_or_ge f i with h1 | h1
      · exact (h.1 hk).2 f d h1 hr hd
      · obtain rfl : f = i := by omega
        exact absurd hd (hno d hr)
    · rcases Nat.lt_or_ge f i with h1 | h1
      · exact (h.2 hk).2 f d h1 hr hd
      · obtain rfl : f = i := by omega
        exact hno d hr hd
theorem Lp.stop (h : Lp M l k0 i0 i e ok) (hi : i0 ≤ i) (hno : ∀ x, Rc M l k0 i0 x i → ¬ Leaf M x) : Lg M l k0 i0 e ok := by
  have hlt : ∀ f d, Rc M l k0 i0 d f → Dn M d → f < i := fun f d hr ⟨st, h1, h2⟩ => by
    rcases Nat.lt_or_ge f i with h3 | h3
    · exact h3
    · exfalso
      rcases Nat.eq_or_lt_of_le h3 with rfl | h4
      · exact hno d hr ⟨st, h1, .inr h2⟩
      · exact Rc.stop hi hno (f - (i + 1)) d (by rw [show i + 1 + (f - (i + 1)) = f by omega]; exact hr)
  exact ⟨fun hk => ⟨(h.1 hk).1, fun f d hr hd => (h.1 hk).2 f d (hlt f d hr hd) hr hd⟩, fun hk => ⟨(h.2 hk).1, fun f d hr hd => (h.2 hk).2 f d (hlt f d hr hd) hr hd⟩⟩
end

/-! ### The steps that are marked -/
def vis (mark : List Int) (p : Int) : List Bool := mark.map fun x => x == p
theorem vis_len (mark : List Int) (p : Int) : (vis mark p).length = mark.length := by simp [vis]
theorem In_vis {mark : List Int} {p : Int} {x : Nat} : In (vis mark p) x ↔ mark[x]? = some p := by
  unfold In vis
  rw [List.getD_eq_getElem?_getD, List.getElem?_map]
  cases mark[x]? <;> simp
theorem In_vis_set {mark : List Int} {p : Int} {x : Nat} (hx : x < mark.length) (y : Nat) : In (vis (mark.set x p) p) y ↔ y = x ∨ In (vis mark p) y := by
  rw [In_vis, In_vis, List.getElem?_set]
  by_cases h : x = y
  · subst h; simp [hx]
  · rw [if_neg h]; constructor
    · exact .inr
    · rintro (h2 | h2)
      · exact absurd h2.symm h
      · exact h2

/-- What holds of a crowd at a place: closed, and its leaves. -/
def Cwd (M : List St4) (i n : Nat) (at_ : List Nat) (mark : List Int) : Prop :=
  (∀ x y, In (vis mark (i + 1)) x → Eps M i n x y → In (vis mark (i + 1)) y) ∧ ∀ x, x ∈ at_ ↔ In (vis mark (i + 1)) x ∧ Leaf M x
/-- What a step's entering does. -/
def Ent (M : List St4) (i n k : Nat) (at_ : List Nat) (mark : List Int) (at' : List Nat) (mark' : List Int) : Prop :=
  Cwd M i n at' mark' ∧ (∀ x, In (vis mark' (i + 1)) x ↔ In (vis mark (i + 1)) x ∨ EpsR M i n k x) ∧ ∀ x : Nat, mark'[x]? = mark[x]? ∨ mark'[x]? = some ((i : Int) + 1)
/-- Along the way: some steps are to be done. -/
structure EntW (M : List St4) (i n k : Nat) (at0 : List Nat) (mark0 : List Int) (todo at_ : List Nat) (mark : List Int) : Prop where
  len : mark.length = M.length
  tl : ∀ x ∈ todo, x < M.length
  tr : ∀ x ∈ todo, EpsR M i n k x
  cl : ∀ x y, In (vis mark (i + 1)) x → Eps M i n x y → In (vis mark (i + 1)) y ∨ y ∈ todo
  vs : ∀ x, In (vis mark (i + 1)) x → In (vis mark0 (i + 1)) x ∨ EpsR M i n k x
  v0 : ∀ x, In (vis mark0 (i + 1)) x → In (vis mark (i + 1)) x
  hk : In (vis mark (i + 1)) k ∨ k ∈ todo
  lf : ∀ x, x ∈ at_ ↔ In (vis mark (i + 1)) x ∧ Leaf M x
  ch : ∀ x : Nat, mark[x]? = mark0[x]? ∨ mark[x]? = some ((i : Int) + 1)
section
variable {M : List St4} {i n k : Nat} {at0 at_ : List Nat} {mark0 mark : List Int} {todo : List Nat}
theorem EntW.start (hl : mark0.length = M.length) (hk : k < M.length) (h : Cwd M i n at0 mark0) : EntW M i n k at0 mark0 [k] at0 mark0 :=
  ⟨hl, fun x hx => by simp at hx; omega, fun x hx => by simp at hx; subst hx; exact .refl, fun x y h1 h2 => .inl (h.1 x y h1 h2), fun x h => .inl h, fun x h => h, .inr (by simp), h.2, fun x => .inl rfl⟩
theorem EntW.done (h : EntW M i n k at0 mark0 [] at_ mark) : Ent M i n k at0 mark0 at_ mark := by
  have hcl : ∀ x y, In (vis mark (i + 1)) x → Eps M i n x y → In (vis mark (i + 1)) y := fun x y h1 h2 => (h.cl x y h1 h2).resolve_right (by simp)
  refine ⟨⟨hcl, h.lf⟩, fun x => ⟨h.vs x, ?_⟩, h.ch⟩
  rintro (h1 | h1)
  · exact h.v0 x h1
  · induction h1 with
    | refl => exact h.hk.resolve_right (by simp)
    | step _ h2 ih => exact hcl _ _ ih h2
/-- One that is there already. -/
theorem EntW.skip {x : Nat} (h : EntW M i n k at0 mark0 (todo ++ [x]) at_ mark) (hx : In (vis mark (i + 1)) x) : EntW M i n k at0 mark0 todo at_ mark := by
  refine ⟨h.len, fun y hy => h.tl y (by simp [hy]), fun y hy => h.tr y (by simp [hy]), fun y z h1 h2 => ?_, h.vs, h.v0, ?_, h.lf, h.ch⟩
  · rcases h.cl y z h1 h2 with h3 | h3
    · exact .inl h3
    · simp at h3
      rcases h3 with h3 | rfl
      · exact .inr h3
      · exact .inl hx
  · rcases h.hk with h3 | h3
    · exact .inl h3
    · simp at h3
      rcases h3 with h3 | rfl
      · exact .inr h3
      · exact .inl hx
/-- One that is new: what it leads to is to be done. -/
theorem EntW.go {x : Nat} {ys : List Nat} {at' : List Nat} (hw : Ws M) (h : EntW M i n k at0 mark0 (todo ++ [x]) at_ mark) (hx : ¬ In (vis mark (i + 1)) x) (hys : ∀ y, y ∈ ys ↔ Eps M i n x y) (hat : ∀ y, y ∈ at' ↔ y ∈ at_ ∨ (y = x ∧ Leaf M x)) :
    EntW M i n k at0 mark0 (todo ++ ys) at' (mark.set x ((i : Int) + 1)) := by
  have hxl : x < mark.length := by rw [h.len]; exact h.tl x (by simp)
  have hv := In_vis_set (p := (i : Int) + 1) hxl
  have hxr := h.tr x (by simp)
  refine ⟨by rw [List.length_set]; exact h.len, fun y hy => ?_, fun y hy => ?_, fun y z h1 h2 => ?_, fun y hy => ?_, fun y hy => (hv y).2 (.inr (h.v0 y hy)), ?_, fun y => ?_, fun y => ?_⟩
  · rcases List.mem_append.1 hy with h1 | h1
    · exact h.tl y (by simp [h1])
    · exact hw.eps ((hys y).1 h1)
  · rcases List.mem_append.1 hy with h1 | h1
    · exact h.tr y (by simp [h1])
    · exact hxr.step ((hys y).1 h1)
  · rcases (hv y).1 h1 with rfl | h3
    · exact .inr (List.mem_append.2 (.inr ((hys z).2 h2)))
    · rcases h.cl y z h3 h2 with h4 | h4
      · exact .inl ((hv z).2 (.inr h4))
      · simp at h4
        rcases h4 with h4 | rfl
        · exact .inr (List.mem_append.2 (.inl h4))
        · exact .inl ((hv z).2 (.inl rfl))
  · rcases (hv y).1 hy with rfl | h3
    · exact .inr hxr
    · exact h.vs y h3
  · rcases h.hk with h3 | h3
    · exact .inl ((hv k).2 (.inr h3))
    · simp at h3
      rcases h3 with h3 | rfl
      · exact .inr (List.mem_append.2 (.inl h3))
      · exact .inl ((hv k).2 (.inl rfl))
  · rw [hat, h.lf]
    constructor
    · rintro (⟨h1, h2⟩ | ⟨rfl, h2⟩)
      · exact ⟨(hv y).2 (.inr h1), h2⟩
      · exact ⟨(hv y).2 (.inl rfl), h2⟩
    · rintro ⟨h1, h2⟩
      rcases (hv y).1 h1 with rfl | h3
      · exact .inr ⟨rfl, h2⟩
      · exact .inl ⟨h3, h2⟩
  · rw [List.getElem?_set]
    split
    · rename_i e; subst e; right; first | rfl | (rw [if_pos hxl])
    · exact h.ch y
/-- How much is to be done. -/
def mu (mark : List Int) (p : Int) (todo : List Nat) : Nat := 3 * (mark.length - cnt (vis mark p)) + todo.length
theorem mu_go {x : Nat} {p : Int} {ys : List Nat} (hx : ¬ In (vis mark p) x) (hl : x < mark.length) (hy : ys.length ≤ 2) : mu (mark.set x p) p (todo ++ ys) < mu mark p (todo ++ [x]) := by
  have hlt := cnt_lt (a := vis mark p) (b := vis (mark.set x p) p) (by rw [vis_len, vis_len, List.length_set]) (fun y hy => (In_vis_set hl y).2 (.inr hy)) (fun e => hx (by rw [e]; exact (In_vis_set hl x).2 (.inl rfl)))
  have hle := cnt_le (vis (mark.set x p) p)
  rw [vis_len, List.length_set] at hle
  unfold mu
  simp only [List.length_set, List.length_append, List.length_cons, List.length_nil]
  omega
end
end Go.Proofs.Ytddichibegppjaa
