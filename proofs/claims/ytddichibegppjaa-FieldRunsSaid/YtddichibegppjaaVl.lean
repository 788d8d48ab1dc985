/- Slices that a call owns; append. -/
import Derived.Test.YtddichibegppjaaVk
import Derived.Maps.AppendAt
set_option linter.unusedSimpArgs false
set_option linter.unusedVariables false
namespace Go.VC
open Go Go.RowKit

/-- A slice that owns its row: nil, or at the head of a block. -/
def Own (w : World) (e sz : Nat) (A : Option Addr) (n cap : Nat) (xs : List Value) : Prop := w.ownsRow 0 e sz (.slice A n cap) n xs
def bk (A : Option Addr) : Option Nat := A.map (·.block)

section
variable {P : Program} {w w' : World} {e sz n cap m c b i g : Nat} {A : Option Addr} {xs : List Value}

theorem Own.nil (w : World) (e sz : Nat) : Own w e sz none 0 0 [] := World.ownsRow_nil w 0 e sz
theorem Own.len (h : Own w e sz A n cap xs) : xs.length = n * sz := h.1
theorem Own.form (h : Own w e sz A n cap xs) : (A = none ∧ n = 0 ∧ cap = 0 ∧ xs = []) ∨
    ∃ g cur, A = some ⟨g, 0, none⟩ ∧ w.heap[g]? = some (.cells cur e (0, 0)) ∧ n ≤ cap ∧ cap ≤ maxLen ∧ cur.size = cap * sz ∧ cur.toList.take (n * sz) = xs := by
  rcases h.2 with ⟨h1, h2⟩ | ⟨g, cp, cur, h1, _, h2, h3, h4, h5, h6⟩
  · injection h1 with h1 h2 h3
    subst h1; subst h3
    exact .inl ⟨rfl, h2, rfl, List.eq_nil_of_length_eq_zero (by rw [h.1, h2]; simp)⟩
  · injection h1 with h7 h8 h9
    subst h7; subst h9
    exact .inr ⟨g, cur, rfl, h2, h3, h4, h5, h6⟩
theorem Own.mk' {cur : Array Value} (h2 : w.heap[g]? = some (.cells cur e (0, 0))) (h3 : n ≤ cap) (h4 : cap ≤ maxLen) (h5 : cur.size = cap * sz) (h6 : cur.toList.take (n * sz) = xs) : Own w e sz (some ⟨g, 0, none⟩) n cap xs :=
  ⟨by rw [← h6, List.length_take]; have := Nat.mul_le_mul_right sz h3; simp; omega, .inr ⟨g, cap, cur, rfl, Nat.zero_le _, h2, h3, h4, h5, h6⟩⟩
/-- It is no nil. -/
theorem Own.some (h : Own w e sz A n cap xs) (hn : 0 < n) : ∃ g, A = some ⟨g, 0, none⟩ ∧ g < w.heap.size ∧ n ≤ cap ∧ cap ≤ maxLen := by
  rcases h.form with ⟨_, h2, _⟩ | ⟨g, cur, h1, h2, h3, h4, _⟩
  · omega
  · exact ⟨g, h1, (Array.getElem?_eq_some_iff.1 h2).1, h3, h4⟩
theorem Own.lt (h : Own w e sz A n cap xs) (hg : bk A = .some g) : g < w.heap.size := by
  rcases h.form with ⟨rfl, _⟩ | ⟨g', cur, rfl, h2, _⟩
  · cases hg
  · simp [bk] at hg; subst hg; exact (Array.getElem?_eq_some_iff.1 h2).1
theorem Own.rdc (h : Own w e sz (.some ⟨g, 0, none⟩) n cap xs) (j : Nat) (hj : j < n * sz) : VC.rdc w g j = xs[j]? := by
  rcases h.form with ⟨h1, _⟩ | ⟨g', cur, h1, h2, h3, h4, h5, h6⟩
  · cases h1
  · injection h1 with h1; injection h1 with h1; subst h1
    unfold VC.rdc
    rw [cell_of_row w g j cur e (0, 0) h2, ← h6, List.getElem?_take, if_pos hj]
    simp
theorem Own.fz (h : Own w e sz (.some ⟨g, 0, none⟩) n cap xs) (j : Nat) : w.frozen? ⟨g, j, none⟩ = false := by
  rcases h.form with ⟨h1, _⟩ | ⟨g', cur, h1, h2, h3, h4, h5, h6⟩
  · cases h1
  · injection h1 with h1; injection h1 with h1; subst h1
    simp [World.frozen?, h2]
theorem Own.keep (h : Own w e sz A n cap xs) (hb : ∀ g, bk A = .some g → w'.heap[g]? = w.heap[g]?) : Own w' e sz A n cap xs := by
  rcases h.form with ⟨rfl, rfl, rfl, rfl⟩ | ⟨g, cur, rfl, h2, h3, h4, h5, h6⟩
  · exact Own.nil _ _ _
  · exact Own.mk' ((hb g rfl).trans h2) h3 h4 h5 h6
theorem Own.alloc (h : Own w e sz A n cap xs) (o : Obj) : Own (w.alloc o) e sz A n cap xs := h.keep fun g hg => Below.heap_alloc w o g (h.lt hg)
theorem Own.drew (h : Own w e sz A n cap xs) : Own w.drew e sz A n cap xs := h
theorem Own.far (h : Own w e sz A n cap xs) {p : Addr} (hp : bk A ≠ .some p.block) (u : Value) : Own (w.setCell p u) e sz A n cap xs := h.keep fun g hg => Below.heap_setCell w p u g (by rintro rfl; exact hp hg)
theorem Own.Kp {S : Nat → Prop} (h : Own w e sz A n cap xs) (hk : VC.Kp S w w') (hs : ∀ g, bk A = .some g → ¬ S g) : Own w' e sz A n cap xs := h.keep fun g hg => hk.blk g (h.lt hg) (hs g hg)
/-- A store into it. -/
theorem Own.set (h : Own w e sz (.some ⟨g, 0, none⟩) n cap xs) (j : Nat) (u : Value) : Own (w.setCell ⟨g, j, none⟩ u) e sz (.some ⟨g, 0, none⟩) n cap (xs.set j u) := by
  rcases h.form with ⟨h1, _⟩ | ⟨g', cur, h1, h2, h3, h4, h5, h6⟩
  · cases h1
  · injection h1 with h1; injection h1 with h1; subst h1
    refine Own.mk' (cur := cur.setIfInBounds j u) ?_ h3 h4 (by simpa using h5) ?_
    · simp [World.setCell, Array.getElem?_modify, h2]
    · rw [Array.toList_setIfInBounds, List.take_set, h6]
/-- It is cut. -/
theorem Own.cut (h : Own w e sz A n cap xs) (k : Nat) (hk : k ≤ n) : Own w e sz A k cap (xs.take (k * sz)) := by
  rcases h.form with ⟨rfl, rfl, rfl, rfl⟩ | ⟨g, cur, rfl, h2, h3, h4, h5, h6⟩
  · obtain rfl : k = 0 := by omega
    simpa using Own.nil w e sz
  · refine Own.mk' h2 (by omega) h4 h5 ?_
    rw [← h6, List.take_take, Nat.min_eq_left (Nat.mul_le_mul_right sz hk)]
/-- A new one. -/
theorem Own.new (w : World) (e sz n cap : Nat) (cur : List Value) (h : n ≤ cap) (hm : cap ≤ maxLen) (hs : cur.length = cap * sz) : Own (w.alloc (.cells cur.toArray e)) e sz (.some ⟨w.heap.size, 0, none⟩) n cap (cur.take (n * sz)) :=
  Own.mk' (heap_alloc_new w _) h hm (by simpa using hs) (by simp)
theorem Own.ne_blk {t : Nat} {cs : List Value} (h : Own w e sz A n cap xs) (hb : Blk w g t cs) (hne : e ≠ t) : bk A ≠ .some g := by
  rcases h.form with ⟨rfl, _⟩ | ⟨g', cur, rfl, h2, _⟩
  · simp [bk]
  · intro he
    simp [bk] at he
    subst he
    unfold Blk at hb
    rw [h2] at hb
    injection hb with hb
    injection hb with _ ht
    exact hne ht

/-- append onto a slice of the call's own. -/
theorem V_append {o : Oper} {F : Fr} {K : Value → World → Prop} {X : List PanicEntry → World → Prop} {z : List Value} {by_ : Nat} (s x : Operand) (t : Nat)
    (ho : o.op = .call { callee := .builtin .append, args := #[s, x], argTypes := #[t, t] }) (hmk : mk P t = some (e, sz, by_, z))
    (hs : ev F s = .slice A n cap) (hown : Own w e sz A n cap xs) (hx : ev F x = .slice (some ⟨b, i, none⟩) m c) (news : List Value) (hr : rdn w b i (m * sz) = some news) (h1 : news.all (·.oneCell') = true)
    (hby : (n + m) * by_ ≤ 140737488355328) (h63 : n + m ≤ 9223372036854775807)
    (h : ∀ A' cap' w', Own w' e sz A' (n + m) cap' (xs ++ news) → w.grownBy w' (bk A) → (bk A' = bk A ∨ bk A' = some w.heap.size) → K (.slice A' (n + m) cap') w') : OpV P o F w K X := by
  obtain ⟨inf, hu, hi, ⟨zv, hz, rfl⟩, hzl, hpos⟩ := mk_eq hmk
  have hszz := mk_sz hmk hi
  have hbyy := mk_by hmk hi
  obtain ⟨hl, hc⟩ := rdn_at hr
  have hob : (Value.slice A n cap).ownBlock = bk A := by cases A <;> rfl
  obtain ⟨v', w', hrun, h2, h3, _, h5⟩ := run_append_own_at (P := P) w 0 t o.type e inf zv sz by_ hu hi hz hszz.symm hbyy.symm (by rw [hszz]; simpa using hzl) (by omega) _ n xs hown ⟨b, i, none⟩ m c news hl
    (fun j u hj => by rw [Addr.add_plain]; exact hc j u hj) (by simpa using h1) (by unfold maxLen; omega) hby (Nat.zero_le _)
  obtain ⟨A', cap', rfl⟩ : ∃ A' cap', v' = .slice A' (n + m) cap' := by
    rcases h2.2 with ⟨rfl, h0⟩ | ⟨g, cp, _, rfl, _⟩
    · exact ⟨none, 0, by rw [h0]⟩
    · exact ⟨_, _, rfl⟩
  have hob' : (Value.slice A' (n + m) cap').ownBlock = bk A' := by cases A' <;> rfl
  rw [hob] at h3 h5
  rw [hob'] at h5
  refine .of_run (w' := w') (v := .slice A' (n + m) cap') ?_ (h A' cap' w' h2 h3 h5)
  simp only [execOp, ho, resolve, invoke, builtin, Sem.run_bind, Sem.run_pure, Result.andThen_ok, List.map_toArray, List.map_cons, List.map_nil, hs, hx, hrun]
end
end Go.VC
