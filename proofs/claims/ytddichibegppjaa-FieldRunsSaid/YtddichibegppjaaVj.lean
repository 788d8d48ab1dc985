/- Regions that draw their order: the theorem. -/
import Derived.Test.YtddichibegppjaaVi
set_option linter.unusedSimpArgs false
set_option linter.unusedVariables false
namespace Go.VC
open Go

def Q0 : Exit → Act → World → Prop := fun _ _ _ => False
theorem letsOut_no : ¬ LetsOut Q0 := fun ⟨_, _, h⟩ => h

section
variable {P : Program} {ops : Array Oper}

/-- Whatever order is picked from here on; 'J' holds at every point. -/
def wpJ (P : Program) (ops : Array Oper) (J : Array Bool → World → Prop) (Q : Act → World → Prop) : Nat → Array Bool → Act → World → Prop
  | 0, l, a, w => J l w ∧ Region.ready .any ops l = [] ∧ Q a w
  | f + 1, l, a, w => J l w ∧ (Region.ready .any ops l = [] → Q a w) ∧ ∀ i ∈ Region.ready .any ops l, wpOp P ops Q0 i (wpJ P ops J Q f (l.setIfInBounds i true)) a w

theorem Oper.wp_Q0 {o : Oper} {a : Act} {w : World} {K : Act → World → Prop} {Q : Exit → Act → World → Prop} (h : o.wp P a w K Q0) : o.wp P a w K Q := by
  unfold Oper.wp at *
  generalize (execOp a.eval o).run P w = r at *
  cases r with
  | ok x w' =>
    cases x <;> simp only [Oper.upon] at h ⊢ <;> try exact h
    refine Calls.mono h fun e w'' he => ?_
    cases e with
    | returned v => exact he
    | panicked ch => exact he.elim
    | outgrown => exact (letsOut_no he).elim
  | halt x w' =>
    cases x <;> simp only [Oper.upon] at h ⊢
    exact h.elim

theorem wpOp_Q0 {i : Nat} {a : Act} {w : World} {K : Act → World → Prop} {Q : Exit → Act → World → Prop} (h : wpOp P ops Q0 i K a w) : wpOp P ops Q i K a w := by
  unfold wpOp at *
  split at h
  · exact h
  · split at h
    · rename_i hw
      rw [if_pos hw]
      rcases h with h | h
      · exact .inl (Oper.wp_Q0 h)
      · exact (letsOut_no h.2).elim
    · rename_i hw; rw [if_neg hw]; exact h

theorem wpJ_any {J : Array Bool → World → Prop} {Q : Act → World → Prop} {Q' : Exit → Act → World → Prop} (hQ : ∀ a w, Q a w → Q' .normal a w) : ∀ (f : Nat) (l : Array Bool) (a : Act) (w : World), wpJ P ops J Q f l a w → wpAny P .any ops Q' f l a w
  | 0, _, _, _, h => ⟨h.2.1, hQ _ _ h.2.2⟩
  | f + 1, _, _, _, h => ⟨fun h0 => hQ _ _ (h.2.1 h0), fun i hi => wpOp_mono (fun a w => wpJ_any hQ f _ a w) (wpOp_Q0 (h.2.2 i hi))⟩

/-- 'l'' is 'l' and more. -/
def Sub (l l' : Array Bool) : Prop := l.size = l'.size ∧ ∀ j, l.getD j false = true → l'.getD j false = true
theorem Sub.refl (l : Array Bool) : Sub l l := ⟨rfl, fun _ h => h⟩
theorem Sub.set {l l' : Array Bool} (h : Sub l l') (i : Nat) : Sub l (l'.setIfInBounds i true) := ⟨by simp [h.1], fun j hj => getD_set_true (h.2 j hj)⟩
theorem Sub.of_set {l l' : Array Bool} {i : Nat} (h : Sub (l.setIfInBounds i true) l') : Sub l l' := ⟨by simpa using h.1, fun j hj => h.2 j (getD_set_true hj)⟩

theorem wpJ_mono {J J' : Array Bool → World → Prop} {Q : Act → World → Prop} : ∀ (f : Nat) (l : Array Bool) (a : Act) (w : World), (∀ l' w, Sub l l' → J' l' w → J l' w) → wpJ P ops J' Q f l a w → wpJ P ops J Q f l a w
  | 0, l, _, _, hJ, h => ⟨hJ l _ (Sub.refl _) h.1, h.2⟩
  | f + 1, l, _, _, hJ, h => ⟨hJ l _ (Sub.refl _) h.1, h.2.1, fun i hi => wpOp_mono (fun a w => wpJ_mono f _ a w (fun l' w hs => hJ l' w hs.of_set)) (h.2.2 i hi)⟩

/-- In every world of a class. -/
def YC (P : Program) (ops : Array Oper) (C : World → Prop) (o : Oper) (v : Value) (a : Act) : Prop :=
  (Region.wanted o (yielded ops a.tmps) = true ∧ ∀ w, C w → (execOp a.eval o).run P w = .ok (.value v) w) ∨
  (Region.wanted o (yielded ops a.tmps) = false ∧ v = undef)

theorem YC.of_same {C : World → Prop} {o : Oper} {v : Value} {a a' : Act} (hy : YC P ops C o v a) (he : execOp a'.eval o = execOp a.eval o)
    (hw : Region.wanted o (yielded ops a'.tmps) = Region.wanted o (yielded ops a.tmps)) : YC P ops C o v a' := by
  unfold YC at *; rw [he, hw]; exact hy

theorem YC.wpOp {C : World → Prop} {i : Nat} {o : Oper} {v : Value} {a : Act} (hi : ops[i]? = some o) (hy : YC P ops C o v a) {Q : Exit → Act → World → Prop} {K : Act → World → Prop} {w : World} (hC : C w) (h : K (a.put o.dst v) w) : wpOp P ops Q i K a w := by
  unfold Go.wpOp
  simp only [hi]
  rcases hy with ⟨hw, hv⟩ | ⟨hw, rfl⟩
  · simp only [hw, if_true, Oper.wp, hv w hC, Oper.upon]; exact .inl h
  · simp only [hw, Bool.false_eq_true, if_false]; exact h

theorem wpOp_putC {C : World → Prop} {j : Nat} {oi oj : Oper} {v : Value} (hj : ops[j]? = some oj) (hap : oi.apart ops oj = true)
    (hsi : ∀ cs b, oi.op ≠ .select cs b) (hsj : ∀ cs b, oj.op ≠ .select cs b) {K : Act → World → Prop} {a : Act} {w : World}
    (hy : YC P ops C oi v a) (h : wpOp P ops Q0 j K (a.put oi.dst v) w) :
    wpOp P ops Q0 j (fun a' w' => YC P ops C oi v a' ∧ K (a'.put oi.dst v) w') a w := by
  obtain ⟨h1, h2, h3⟩ := Oper.apart_spec hap
  have keep : ∀ (a : Act), YC P ops C oi v a → ∀ u, YC P ops C oi v (a.put oj.dst u) := fun a hy u =>
    hy.of_same (execOp_put oi hsi a oj.dst u h3) (wanted_put oi a oj.dst u h3)
  have keepD : ∀ d, YC P ops C oi v { a with defers := d :: a.defers } := fun d => hy.of_same rfl rfl
  unfold wpOp at *
  simp only [hj] at *
  rw [wanted_put oj a oi.dst v h1] at h
  split
  · rename_i hw
    simp only [hw, if_true] at h
    rcases h with h | ⟨_, hlets⟩
    case inr => exact (letsOut_no hlets).elim
    refine .inl ?_
    unfold Oper.wp at *
    rw [execOp_put oj hsj a oi.dst v h1] at h
    generalize (execOp a.eval oj).run P w = r at *
    cases r with
    | ok n w' =>
      cases n <;> simp only [Oper.upon] at h ⊢
      case value u => exact ⟨keep a hy u, by rw [← Act.put_comm a v u h2]; exact h⟩
      case skip => exact ⟨keep a hy _, by rw [← Act.put_comm a v undef h2]; exact h⟩
      case defer d =>
        refine ⟨keep _ (keepD d) _, ?_⟩
        rw [← Act.put_comm _ v undef h2, ← Act.put_defers]
        exact h
      case enter f args =>
        refine Calls.mono h fun e w'' he => ?_
        cases e with
        | returned u => exact ⟨keep a hy u, by rw [← Act.put_comm a v u h2]; exact he⟩
        | panicked c => exact he.elim
        | outgrown => exact he
      case row row args => exact Rows.mono h fun u w'' he => ⟨keep a hy u, by rw [← Act.put_comm a v u h2]; exact he⟩
    | halt x w' =>
      cases x <;> simp only [Oper.upon] at h ⊢
      case panic u => exact h.elim
  · rename_i hw
    simp only [hw] at h
    exact ⟨keep a hy _, by rw [← Act.put_comm a v undef h2]; exact h⟩

def Down (ops : Array Oper) (l : Array Bool) : Prop := ∀ j o, l.getD j false = true → ops[j]? = some o → ∀ e ∈ o.after, Region.binds .any e = true → l.getD e.on false = true

theorem Down.set {l : Array Bool} (h : Down ops l) {i : Nat} (hi : i ∈ Region.ready .any ops l) : Down ops (l.setIfInBounds i true) := by
  intro j o hj ho e he hb
  obtain ⟨_, o', ho', hall⟩ := mem_ready.1 hi
  by_cases hji : i = j
  · subst hji; rw [ho'] at ho; injection ho with ho; subst ho; exact getD_set_true (hall e he hb)
  · rw [getD_set_ne false hji] at hj; exact getD_set_true (h j o hj ho e he hb)

theorem ready_un {l : Array Bool} {i : Nat} (hi : i ∈ Region.ready .any ops l) : l.getD i false = false ∧ i < l.size := by
  have h0 := (mem_ready.1 hi).1
  rcases Nat.lt_or_ge i l.size with h' | h'
  · simp [h'] at h0 ⊢; exact h0
  · simp [Array.getElem?_eq_none h'] at h0

/-- **An operation that may come up may be taken first.** -/
theorem wpJ_first {C : World → Prop} {J J' : Array Bool → World → Prop} {Q : Act → World → Prop} {i : Nat} {oi : Oper} {v : Value} (hi : ops[i]? = some oi) (hsel : ∀ (j : Nat) (o : Oper) cs b, ops[j]? = some o → o.op ≠ .select cs b)
    {N : Nat} (hJ : ∀ l w, l.size = N → Down ops l → l.getD i false = false → J' (l.setIfInBounds i true) w → J l w ∧ C w) (hJ2 : ∀ l w, J' l w → l.getD i false = true → J l w) :
    ∀ (f : Nat) (l : Array Bool) (a : Act) (w : World),
      (∀ j oj, ops[j]? = some oj → j ≠ i → l.getD j true = false → (∀ e ∈ oj.after, Region.binds .any e = true → e.on ≠ i) → oi.apart ops oj = true) →
      l.size = N → Down ops l → i ∈ Region.ready .any ops l → YC P ops C oi v a →
      wpJ P ops J' Q f (l.setIfInBounds i true) (a.put oi.dst v) w → wpJ P ops J Q (f + 1) l a w := by
  intro f
  have toJ : ∀ f l a w, l.getD i false = true → wpJ P ops J' Q f l a w → wpJ P ops J Q f l a w := fun f l a w hl => wpJ_mono f l a w fun l' w' hs h' => hJ2 l' w' h' (hs.2 i hl)
  induction f with
  | zero =>
    intro l a w _ hN hd hr hy H
    obtain ⟨hun, hlt⟩ := ready_un hr
    have hH : J l w ∧ C w := hJ l w hN hd hun H.1
    refine ⟨hH.1, fun h => (by rw [h] at hr; cases hr), fun j hj => ?_⟩
    by_cases hji : j = i
    · subst hji; exact hy.wpOp hi hH.2 (toJ 0 _ _ _ (by simp [hlt]) H)
    · have := ready_mono hj hji
      rw [H.2.1] at this
      cases this
  | succ f ih =>
    intro l a w hfree hN hd hr hy H
    obtain ⟨hun, hlt⟩ := ready_un hr
    have hH : J l w ∧ C w := hJ l w hN hd hun H.1
    refine ⟨hH.1, fun h => (by rw [h] at hr; cases hr), fun j hj => ?_⟩
    by_cases hji : j = i
    · subst hji; exact hy.wpOp hi hH.2 (toJ (f + 1) _ _ _ (by simp [hlt]) H)
    · have h1 := H.2.2 j (ready_mono hj hji)
      obtain ⟨hjun, oj, hoj, hall⟩ := mem_ready.1 hj
      have hnot : ∀ e ∈ oj.after, Region.binds .any e = true → e.on ≠ i := fun e he hb heq => by
        have h1 := hall e he hb
        rw [heq, hun] at h1
        cases h1
      have h2 := wpOp_putC hoj (hfree j oj hoj hji hjun hnot) (fun cs b => hsel i oi cs b hi) (fun cs b => hsel j oj cs b hoj) hy h1
      have hfree' : ∀ k ok, ops[k]? = some ok → k ≠ i → (l.setIfInBounds j true).getD k true = false →
          (∀ e ∈ ok.after, Region.binds .any e = true → e.on ≠ i) → oi.apart ops ok = true := fun k ok hk hki hun hno => by
        refine hfree k ok hk hki ?_ hno
        by_cases hjk : j = k
        · subst hjk; exact hjun
        · rw [getD_set_ne true hjk] at hun; exact hun
      refine wpOp_mono (fun a' w' h3 => ih (l.setIfInBounds j true) a' w' hfree' (by simpa using hN) (hd.set hj) (ready_mono hr (Ne.symm hji)) h3.1 ?_) h2
      rw [Array.setIfInBounds_comm _ _ hji]
      exact h3.2
end
end Go.VC
