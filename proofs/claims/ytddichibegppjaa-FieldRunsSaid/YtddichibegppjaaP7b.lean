/- Lists of trees in memory, beside the program's reader. -/
import Derived.Test.YtddichibegppjaaP7
set_option linter.unusedSimpArgs false
set_option linter.unusedVariables false
namespace Go.Proofs.Ytddichibegppjaa
open Go Go.VC
section
variable {w w1 w2 : World} {a : Nat} {rs rs' : List Value} {es : List Re} {A A' : Option Addr} {n n' cap cap' N N' : Nat}

/-- Where the reader of a list stands; what is in the list lies below N. -/
structure Lq (w : World) (a : Nat) (rs : List Value) (es : List Re) (A : Option Addr) (n cap N : Nat) (w' : World) : Prop where
  at_ : Blk w' a 133 rs
  r : Blk w' w.heap.size 33 zRe
  own : ∃ xs, Own w' 33 5 A n cap xs ∧ IsEl w' (fun b => w.heap.size < b ∧ b < N ∧ bk A ≠ some b) es xs
  n : n = es.length
  fresh : ∀ g, bk A = some g → w.heap.size < g ∧ g < N
  kp : VC.Kp (· = a) w w'
  lt : a < w.heap.size
  N1 : w.heap.size < N
  N2 : N ≤ w'.heap.size
theorem Lq.far {S : Nat → Prop} (h : Lq w a rs es A n cap N w1) (hk : Kp S w1 w2) (h2 : Blk w2 a 133 rs') (hS : ∀ b, S b → b = a ∨ N ≤ b) : Lq w a rs' es A n cap N w2 := by
  obtain ⟨xs, ho, he⟩ := h.own
  have hlt := h.lt
  have hN := h.N1
  have hN2 := h.N2
  refine ⟨h2, hk.Blk h.r (fun e => by have := hS _ e; omega), ⟨xs, ho.Kp hk (fun g hg e => by have := h.fresh g hg; have := hS _ e; omega), he.Kp hk (fun b hb e => by have := hb.1; have := hb.2.1; have := hS _ e; omega) (fun b hb => hb)⟩, h.n, h.fresh,
    h.kp.trans' hk (fun i hi e => by have := hS _ e; omega), hlt, hN, Nat.le_trans hN2 hk.size⟩
theorem Lq.keep (h : Lq w a rs es A n cap N w1) (h2 : Blk w2 a 133 rs') (hk : Kp (· = a) w1 w2) : Lq w a rs' es A n cap N w2 := h.far hk h2 (fun b e => .inl e)
theorem Lq.alloc (h : Lq w a rs es A n cap N w1) (o : Obj) : Lq w a rs es A n cap N (w1.alloc o) := h.keep (h.at_.alloc o) ((Kp.refl _ w1).alloc o)
theorem Lq.drew (h : Lq w a rs es A n cap N w1) : Lq w a rs es A n cap N w1.drew := h.keep h.at_.drew ((Kp.refl _ w1).drew)
theorem Lq.seta (h : Lq w a rs es A n cap N w1) {j : Nat} {v : Value} (h2 : Blk (w1.setCell ⟨a, j, none⟩ v) a 133 rs') : Lq w a rs' es A n cap N (w1.setCell ⟨a, j, none⟩ v) :=
  h.keep h2 ((Kp.refl (· = a) w1).setCell (p := ⟨a, j, none⟩) (fun _ => rfl) _)
/-- A block of one's own is written. -/
theorem Lq.setq (h : Lq w a rs es A n cap N w1) {q : Nat} (hq : N ≤ q) (vs : List Value) : Lq w a rs es A n cap N (w1.setCells q 0 vs) := by
  have h1 := h.lt
  have h2 := h.N1
  exact h.far ((Kp.refl (· = q) w1).setCells (fun _ => rfl) vs 0) (Blk.farCells (by omega) _ _ _ h.at_) (fun b e => .inr (by omega))
/-- One more. -/
theorem Lq.append {e : Re} {cs : List Value} {o : Obj} {xs : List Value} (h : Lq w a rs es A n cap N w1) (ho : Own w1 33 5 A n cap xs) (hel : IsEl w1 (fun b => w.heap.size < b ∧ b < N ∧ bk A ≠ some b) es xs) (he : IsRe w1 (fun b => N ≤ b ∧ b < w1.heap.size) e cs)
    (h' : Own w2 33 5 A' (n + 1) cap' (xs ++ cs)) (hg : (w1.alloc o).grownBy w2 (bk A)) (hat : bk A' = bk A ∨ bk A' = some (w1.alloc o).heap.size) : Lq w a rs (es ++ [e]) A' (n + 1) cap' w2.heap.size w2 := by
  have h1 := h.lt
  have h2 := h.N1
  have h3 := h.N2
  have h4 := hg.size
  simp at h4
  have hsz : (w1.alloc o).heap.size = w1.heap.size + 1 := by simp
  have hA : ∀ b, b < N → bk A ≠ some b → bk A' ≠ some b := by
    intro b hb hne
    rcases hat with e | e <;> rw [e]
    · exact hne
    · rw [hsz]; intro e2; injection e2; omega
  have hk : Kp (fun b => bk A = some b) w1 w2 := ((Kp.refl (fun b => bk A = some b) w1).alloc o).grown hg (fun k hk _ => hk)
  have hAa : ∀ b, b ≤ w.heap.size → ¬ bk A = some b := fun b hb e => by have := h.fresh b e; omega
  refine ⟨hk.Blk h.at_ (hAa a (by omega)), hk.Blk h.r (hAa _ (Nat.le_refl _)), ⟨_, h', ?_⟩, by rw [h.n]; simp, ?_, h.kp.trans' hk (fun i hi e => absurd e (hAa i (by omega))), h1, by omega, Nat.le_refl _⟩
  · refine IsEl.snoc _ _ (hel.Kp hk (fun b hb => hb.2.2) (fun b hb => ⟨hb.1, by have := hb.2.1; omega, hA b hb.2.1 hb.2.2⟩)) (he.Kp hk (fun b hb e => by have := h.fresh b e; have := hb.1; omega) (fun b hb => ⟨by have := hb.1; omega, by have := hb.2; omega, ?_⟩))
    rcases hat with e | e <;> rw [e]
    · intro e2; have := h.fresh b e2; have := hb.1; omega
    · rw [hsz]; intro e2; injection e2; have := hb.2; omega
  · intro g hg'
    have hlt2 := h'.lt hg'
    rcases hat with e | e
    · rw [e] at hg'; exact ⟨(h.fresh g hg').1, hlt2⟩
    · rw [e, hsz] at hg'; injection hg' with hg'; omega
end
end Go.Proofs.Ytddichibegppjaa
