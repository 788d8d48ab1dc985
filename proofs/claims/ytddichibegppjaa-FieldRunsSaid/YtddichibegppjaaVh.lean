/- Rules for memory. -/
import Derived.Test.YtddichibegppjaaVg
set_option linter.unusedSimpArgs false
set_option linter.unusedVariables false
namespace Go.VC
open Go Go.RowKit

section
variable {w w' : World} {b b' i j g t : Nat} {o : Obj} {v : Value} {cs : List Value}

theorem rdc_drew : rdc w.drew b i = rdc w b i := rfl
theorem rdc_drewN {n : Nat} : rdc (w.drewN n) b i = rdc w b i := rfl
theorem rdc_alloc_old (h : b < w.heap.size) : rdc (w.alloc o) b i = rdc w b i := World.cell?_of_block (w := w) (Below.heap_alloc w o b h)
theorem rdc_alloc_new {fr : Nat × Nat} {a : Array Value} (h : b = w.heap.size) : rdc (w.alloc (.cells a t fr)) b i = a[i]? := by
  subst h; unfold rdc; exact cell_of_row _ _ i a t fr (heap_alloc_new w _)
theorem rdc_set_same : rdc (w.setCell ⟨b, i, none⟩ v) b j = if j = i then (rdc w b i).map (fun _ => v) else rdc w b j := by
  unfold rdc
  split
  · rename_i e; subst e
    cases h : w.cell? ⟨b, j, none⟩ with
    | none =>
      simp only [World.cell?, World.setCell, Array.getElem?_modify] at h ⊢
      cases hb : w.heap[b]? with
      | none => simp [hb]
      | some x => cases x <;> simp_all
    | some u => simp [World.cell?_setCell_same w _ v h]
  · rename_i e
    exact World.cell?_setCell_other w _ _ v (by intro h; injection h with _ h2; exact e h2.symm)
theorem rdc_set_ne (h : b ≠ b') : rdc (w.setCell ⟨b, i, none⟩ v) b' j = rdc w b' j :=
  World.cell?_setCell_other w _ _ v (by intro e; injection e with h1; exact h h1)
theorem fz_drew : w.drew.frozen? ⟨b, i, none⟩ = w.frozen? ⟨b, i, none⟩ := rfl
theorem fz_alloc_old (h : b < w.heap.size) : (w.alloc o).frozen? ⟨b, i, none⟩ = w.frozen? ⟨b, i, none⟩ := World.frozen?_of_block (w := w) (a := ⟨b, i, none⟩) (Below.heap_alloc w o b h)
theorem fz_alloc_new {a : Array Value} (h : b = w.heap.size) : (w.alloc (.cells a t)).frozen? ⟨b, i, none⟩ = false := by
  subst h; unfold World.frozen?; rw [heap_alloc_new w (.cells a t)]; simp
theorem sz_drew : w.drew.heap.size = w.heap.size := rfl
theorem setCells_nil : w.setCells b i [] = w := rfl
theorem setCells_cons : w.setCells b i (v :: cs) = (w.setCell ⟨b, i, none⟩ v).setCells b (i + 1) cs := rfl
theorem wrc_iff : wrc w b i = ((rdc w b i).isSome = true ∧ w.frozen? ⟨b, i, none⟩ = false) := rfl
theorem rdn_zero : rdn w b i 0 = some [] := rfl
theorem rdn_succ {n : Nat} : rdn w b i (n + 1) = match rdc w b i with | some v => (match rdn w b (i + 1) n with | some vs => some (v :: vs) | none => none) | none => none := rfl
theorem wrn_zero : wrn w b i 0 = True := rfl
theorem wrn_succ {n : Nat} : wrn w b i (n + 1) = (wrc w b i ∧ wrn w b (i + 1) n) := rfl

/-- A block that is known whole. -/
def Blk (w : World) (g t : Nat) (cs : List Value) : Prop := w.heap[g]? = some (.cells cs.toArray t (0, 0))
theorem Blk.rdc (h : Blk w g t cs) (i : Nat) : VC.rdc w g i = cs[i]? := by unfold VC.rdc; rw [cell_of_row w g i cs.toArray t (0, 0) h]; simp
theorem Blk.fz (h : Blk w g t cs) (i : Nat) : w.frozen? ⟨g, i, none⟩ = false := by unfold Blk at h; simp [World.frozen?, h]
theorem Blk.lt (h : Blk w g t cs) : g < w.heap.size := (Array.getElem?_eq_some_iff.1 h).1
theorem Blk.new (w : World) (t : Nat) (cs : List Value) : Blk (w.alloc (.cells cs.toArray t)) w.heap.size t cs := heap_alloc_new w _
theorem Blk.drew (h : Blk w g t cs) : Blk w.drew g t cs := h
theorem Blk.alloc (h : Blk w g t cs) (o : Obj) : Blk (w.alloc o) g t cs := (Below.heap_alloc w o g h.lt).trans h
theorem Blk.set (h : Blk w g t cs) (i : Nat) (u : Value) : Blk (w.setCell ⟨g, i, none⟩ u) g t (cs.set i u) := by
  unfold Blk at h ⊢; simp [World.setCell, Array.getElem?_modify, h]
theorem Blk.far (h : Blk w g t cs) {p : Addr} (hp : g ≠ p.block) (u : Value) : Blk (w.setCell p u) g t cs := (Below.heap_setCell w p u g hp).trans h
theorem Blk.keep (h : Blk w g t cs) (hb : w'.heap[g]? = w.heap[g]?) : Blk w' g t cs := hb.trans h
theorem Blk.ne {g' t' : Nat} {cs' : List Value} (h : Blk w g t cs) (h' : Blk w g' t' cs') (hne : t ≠ t') : g ≠ g' := by
  rintro rfl; unfold Blk at h h'; rw [h] at h'; injection h' with h'; injection h' with _ ht; exact hne ht

/-- All old blocks but some are as they were. -/
structure Kp (S : Nat → Prop) (w w' : World) : Prop where
  os : w'.os = w.os
  tape : w'.tape = w.tape
  output : w'.output = w.output
  size : w.heap.size ≤ w'.heap.size
  blk : ∀ k, k < w.heap.size → ¬ S k → w'.heap[k]? = w.heap[k]?

theorem Kp.refl (S : Nat → Prop) (w : World) : Kp S w w := ⟨rfl, rfl, rfl, Nat.le_refl _, fun _ _ _ => rfl⟩
theorem Kp.trans {S : Nat → Prop} {a b c : World} (h : Kp S a b) (k : Kp S b c) : Kp S a c :=
  ⟨k.os.trans h.os, k.tape.trans h.tape, k.output.trans h.output, Nat.le_trans h.size k.size, fun i hi hs => (k.blk i (Nat.lt_of_lt_of_le hi h.size) hs).trans (h.blk i hi hs)⟩
theorem Kp.mono {S S' : Nat → Prop} {a b : World} (h : Kp S a b) (hs : ∀ k, k < a.heap.size → S k → S' k) : Kp S' a b :=
  ⟨h.os, h.tape, h.output, h.size, fun i hi hn => h.blk i hi fun e => hn (hs i hi e)⟩
/-- What is written behind may be new. -/
theorem Kp.trans' {S T : Nat → Prop} {a b c : World} (h : Kp S a b) (k : Kp T b c) (ht : ∀ i, i < a.heap.size → T i → S i) : Kp S a c :=
  ⟨k.os.trans h.os, k.tape.trans h.tape, k.output.trans h.output, Nat.le_trans h.size k.size, fun i hi hs => (k.blk i (Nat.lt_of_lt_of_le hi h.size) fun e => hs (ht i hi e)).trans (h.blk i hi hs)⟩
theorem Kp.drew {S : Nat → Prop} {a w : World} (h : Kp S a w) : Kp S a w.drew := ⟨h.os, h.tape, h.output, h.size, h.blk⟩
theorem Kp.alloc {S : Nat → Prop} {a w : World} (h : Kp S a w) (o : Obj) : Kp S a (w.alloc o) :=
  ⟨h.os, h.tape, h.output, by have := h.size; simp; omega, fun i hi hs => (Below.heap_alloc w o i (Nat.lt_of_lt_of_le hi h.size)).trans (h.blk i hi hs)⟩
theorem Kp.setCell {S : Nat → Prop} {a w : World} (h : Kp S a w) {p : Addr} (hp : p.block < a.heap.size → S p.block) (u : Value) : Kp S a (w.setCell p u) :=
  ⟨h.os, h.tape, h.output, by simpa [World.setCell] using h.size, fun i hi hs => (Below.heap_setCell w p u i (by rintro rfl; exact hs (hp hi))).trans (h.blk i hi hs)⟩
theorem Kp.grown {S : Nat → Prop} {a w w' : World} {row : Option Nat} (h : Kp S a w) (hg : w.grownBy w' row) (hr : ∀ k, row = some k → k < a.heap.size → S k) : Kp S a w' :=
  ⟨hg.os.trans h.os, hg.tape.trans h.tape, hg.output.trans h.output, Nat.le_trans h.size hg.size, fun i hi hs => (hg.block i (Nat.lt_of_lt_of_le hi h.size) (fun e => hs (hr i e.symm hi))).trans (h.blk i hi hs)⟩
theorem Kp.below {a w : World} (h : Kp (fun _ => False) a w) : Below a.heap.size a w := ⟨h.os, h.tape, h.output, h.size, fun k hk => h.blk k hk id⟩
theorem Kp.Blk {S : Nat → Prop} {a w : World} (h : Kp S a w) (hb : VC.Blk a g t cs) (hs : ¬ S g) : VC.Blk w g t cs := hb.keep (h.blk g hb.lt hs)
theorem Kp.rdc {S : Nat → Prop} {a w : World} (h : Kp S a w) (hb : b < a.heap.size) (hs : ¬ S b) : VC.rdc w b i = VC.rdc a b i := World.cell?_of_block (w := a) (a := ⟨b, i, none⟩) (h.blk b hb hs)
theorem Kp.fz {S : Nat → Prop} {a w : World} (h : Kp S a w) (hb : b < a.heap.size) (hs : ¬ S b) : w.frozen? ⟨b, i, none⟩ = a.frozen? ⟨b, i, none⟩ := World.frozen?_of_block (w := a) (a := ⟨b, i, none⟩) (h.blk b hb hs)
end
attribute [push_cast] List.set_cons_zero List.set_cons_succ List.set_nil rdc_drew rdc_drewN rdc_alloc_old rdc_alloc_new rdc_set_same rdc_set_ne fz_drew fz_alloc_old fz_alloc_new World.size_alloc World.size_setCell sz_drew setCells_nil setCells_cons wrc_iff rdn_zero rdn_succ wrn_zero wrn_succ World.frozen?_setCell
attribute [push_cast] List.getElem?_toArray List.getElem?_cons_zero List.getElem?_cons_succ Option.isSome_some Option.map_some List.length_cons List.length_nil Nat.zero_add
end Go.VC
