/- Steps in memory. -/
import Derived.Test.YtddichibegppjaaPa
import Derived.Test.YtddichibegppjaaZ948b658
set_option linter.unusedSimpArgs false
set_option linter.unusedVariables false
namespace Go.Proofs.Ytddichibegppjaa
open Go Go.VC

/-- A step's cells; what it eats lies in a block of a class. -/
def IsSt (w : World) (D : Nat → Prop) (st : St4) (cs : List Value) : Prop :=
  ∃ q : Option Addr, cs = [.int .i64 st.kind, .pointer q, .int .i64 st.a, .int .i64 st.b] ∧ (st.kind = 0 → ∃ b, q = some ⟨b, 0, none⟩ ∧ D b ∧ st.set.length = 256 ∧ Bs w b st.set)
def IsSts (w : World) (D : Nat → Prop) : List St4 → List Value → Prop
  | [], xs => xs = []
  | k :: ks, xs => ∃ cs ys, xs = cs ++ ys ∧ IsSt w D k cs ∧ IsSts w D ks ys

section
variable {w w' w1 w2 : World} {D D' : Nat → Prop} {st : St4} {ms : List St4} {cs xs : List Value}
theorem IsSt.len (h : IsSt w D st cs) : cs.length = 4 := by obtain ⟨q, rfl, _⟩ := h; rfl
theorem IsSt.Kp {S : Nat → Prop} (h : IsSt w D st cs) (hk : VC.Kp S w w') (hs : ∀ b, D b → ¬ S b) (hd : ∀ b, D b → D' b) : IsSt w' D' st cs := by
  obtain ⟨q, h1, h2⟩ := h
  refine ⟨q, h1, fun h => ?_⟩
  obtain ⟨b, h3, h4, h5, h6⟩ := h2 h
  exact ⟨b, h3, hd b h4, h5, Nat.lt_of_lt_of_le h6.1 hk.size, fun j hj => by rw [hk.rdc h6.1 (hs b h4)]; exact h6.2 j hj⟩
theorem IsSts.Kp {S : Nat → Prop} (hk : VC.Kp S w w') (hs : ∀ b, D b → ¬ S b) (hd : ∀ b, D b → D' b) : ∀ (ms : List St4) (xs : List Value), IsSts w D ms xs → IsSts w' D' ms xs
  | [], xs, h => h
  | k :: ks, xs, h => by
    obtain ⟨cs, ys, h1, h2, h3⟩ := h
    exact ⟨cs, ys, h1, h2.Kp hk hs hd, IsSts.Kp hk hs hd ks ys h3⟩
theorem IsSts.snoc : ∀ (ms : List St4) (xs : List Value), IsSts w D ms xs → IsSt w D st cs → IsSts w D (ms ++ [st]) (xs ++ cs)
  | [], xs, h, h2 => by
    simp only [IsSts] at h; subst h
    exact ⟨cs, [], by simp, h2, rfl⟩
  | k :: ks, xs, h, h2 => by
    obtain ⟨ds, ys, rfl, h4, h5⟩ := h
    exact ⟨ds, ys ++ cs, by simp, h4, IsSts.snoc ks ys h5 h2⟩
theorem IsSts.len : ∀ (ms : List St4) (xs : List Value), IsSts w D ms xs → xs.length = ms.length * 4
  | [], xs, h => by simp only [IsSts] at h; subst h; rfl
  | k :: ks, xs, h => by
    obtain ⟨ds, ys, rfl, h4, h5⟩ := h
    have := IsSts.len ks ys h5
    have := h4.len
    simp; omega
theorem IsSts.get : ∀ (ms : List St4) (xs : List Value), IsSts w D ms xs → ∀ (k : Nat) (st : St4), ms[k]? = some st → ∃ cs, IsSt w D st cs ∧ ∀ j, j < 4 → xs[k * 4 + j]? = cs[j]?
  | [], xs, h, k, st, hk => by simp at hk
  | e :: ms, xs, h, k, st, hk => by
    obtain ⟨ds, ys, rfl, h4, h5⟩ := h
    have hl := h4.len
    cases k with
    | zero => simp at hk; subst hk; exact ⟨ds, h4, fun j hj => by rw [List.getElem?_append_left (by omega)]; simp⟩
    | succ k =>
      obtain ⟨cs, h6, h7⟩ := IsSts.get ms ys h5 k st (by simpa using hk)
      exact ⟨cs, h6, fun j hj => by rw [List.getElem?_append_right (by omega), ← h7 j hj]; congr 1; omega⟩
/-- The a of a fork is put in. -/
theorem IsSts.seta : ∀ (ms : List St4) (xs : List Value), IsSts w D ms xs → ∀ (k : Nat) (st : St4) (a : Nat), ms[k]? = some st → IsSts w D (ms.set k { st with a := a }) (xs.set (k * 4 + 2) (.int .i64 a))
  | [], xs, h, k, st, a, hk => by simp at hk
  | e :: ms, xs, h, k, st, a, hk => by
    obtain ⟨ds, ys, rfl, h4, h5⟩ := h
    have hl := h4.len
    cases k with
    | zero =>
      simp at hk; subst hk
      obtain ⟨q, rfl, h6⟩ := h4
      refine ⟨[.int .i64 e.kind, .pointer q, .int .i64 a, .int .i64 e.b], ys, by simp, ⟨q, rfl, h6⟩, h5⟩
    | succ k =>
      have := IsSts.seta ms ys h5 k st a (by simpa using hk)
      refine ⟨ds, _, ?_, h4, this⟩
      rw [List.set_append_right _ _ (by omega)]
      congr 2
      omega

/-- A maker; what its steps eat lies below N. -/
structure MkrN (w : World) (m : Nat) (ms : List St4) (N : Nat) (w' : World) : Prop where
  ex : ∃ A cap xs, Blk w' m 100 [.slice A ms.length cap] ∧ Own w' 104 4 A ms.length cap xs ∧ IsSts w' (fun b => w.heap.size ≤ b ∧ b < N ∧ b ≠ m ∧ bk A ≠ some b) ms xs ∧ ∀ g, bk A = some g → w.heap.size ≤ g ∧ g ≠ m
  kp : VC.Kp (fun _ => False) w w'
  hm : w.heap.size ≤ m
  hN : N ≤ w'.heap.size
def Mkr (w : World) (m : Nat) (ms : List St4) (w' : World) : Prop := ∃ N, MkrN w m ms N w'
theorem MkrN.keep0 {m N : Nat} (h : MkrN w m ms N w1) (hk : VC.Kp (fun _ => False) w1 w2) : MkrN w m ms N w2 := by
  obtain ⟨A, cap, xs, h1, h2, h3, h4⟩ := h.ex
  exact ⟨⟨A, cap, xs, hk.Blk h1 id, h2.Kp hk (fun _ _ => id), h3.Kp hk (fun _ _ => id) (fun b hb => hb), h4⟩, h.kp.trans hk, h.hm, Nat.le_trans h.hN hk.size⟩
theorem Mkr.keep0 {m : Nat} (h : Mkr w m ms w1) (hk : VC.Kp (fun _ => False) w1 w2) : Mkr w m ms w2 := h.elim fun N h => ⟨N, h.keep0 hk⟩
theorem MkrN.lt {m N : Nat} (h : MkrN w m ms N w1) : m < w1.heap.size := by obtain ⟨A, cap, xs, h1, _⟩ := h.ex; exact h1.lt
theorem Mkr.lt {m : Nat} (h : Mkr w m ms w1) : m < w1.heap.size := h.elim fun N h => h.lt
theorem Mkr.kp {m : Nat} (h : Mkr w m ms w1) : VC.Kp (fun _ => False) w w1 := h.elim fun N h => h.kp
/-- A block of another kind is written. -/
theorem MkrN.far {m N q : Nat} {cs : List Value} {t : Nat} (h : MkrN w m ms N w1) (hq : Blk w1 q t cs) (h1 : t ≠ 100) (h2 : t ≠ 104) (hN : N ≤ q) (hw : w.heap.size ≤ q) (hk : VC.Kp (· = q) w1 w2) : MkrN w m ms N w2 := by
  obtain ⟨A, cap, xs, b1, b2, b3, b4⟩ := h.ex
  have hmq := b1.ne hq (Ne.symm h1)
  have hAq := b2.ne_blk hq (Ne.symm h2)
  exact ⟨⟨A, cap, xs, hk.Blk b1 hmq, b2.Kp hk (fun g hg e => hAq (e ▸ hg)), b3.Kp hk (fun b hb e => by have := hb.2.1; omega) (fun b hb => hb), b4⟩, h.kp.trans' hk (fun i hi e => by omega), h.hm, Nat.le_trans h.hN hk.size⟩
/-- Where a fork's first way is put in. -/
theorem MkrN.patch {m N k : Nat} {st : St4} (h : MkrN w m ms N w1) (hk : ms[k]? = some st) (a : Nat) :
    ∃ g cap v, Blk w1 m 100 [.slice (some ⟨g, 0, none⟩) ms.length cap] ∧ VC.rdc w1 g (k * 4 + 2) = some v ∧ w1.frozen? ⟨g, k * 4 + 2, none⟩ = false ∧ g ≠ m ∧ g < w1.heap.size ∧
      MkrN w m (ms.set k { st with a := a }) N (w1.setCell ⟨g, k * 4 + 2, none⟩ (.int .i64 a)) ∧ ∀ b cs, Blk w1 b 33 cs → Blk (w1.setCell ⟨g, k * 4 + 2, none⟩ (.int .i64 a)) b 33 cs := by
  obtain ⟨A, cap, xs, b1, b2, b3, b4⟩ := h.ex
  have hkl : k < ms.length := (List.getElem?_eq_some_iff.1 hk).1
  obtain ⟨g, rfl, hg, _⟩ := b2.some (by omega)
  have hxl := IsSts.len ms xs b3
  have hgm := (b4 g rfl).2
  have hc := b2.rdc (k * 4 + 2) (by omega)
  rw [List.getElem?_eq_getElem (by omega)] at hc
  have hkp : VC.Kp (· = g) w1 (w1.setCell ⟨g, k * 4 + 2, none⟩ (.int .i64 a)) := (Kp.refl (· = g) w1).setCell (p := ⟨g, k * 4 + 2, none⟩) (fun _ => rfl) _
  refine ⟨g, cap, _, b1, hc, b2.fz _, hgm, hg, ⟨⟨some ⟨g, 0, none⟩, cap, xs.set (k * 4 + 2) (.int .i64 a), ?_, ?_, ?_, b4⟩, h.kp.trans' hkp (fun i hi e => by have := (b4 g rfl).1; omega), h.hm, by simpa using h.hN⟩, fun b cs hb => hkp.Blk hb (fun e => b2.ne_blk hb (by decide) (by rw [e]; rfl))⟩
  · rw [List.length_set]; exact hkp.Blk b1 (fun e => hgm e.symm)
  · rw [List.length_set]; exact b2.set (k * 4 + 2) _
  · have := IsSts.seta ms xs b3 k st a hk
    exact IsSts.Kp hkp (fun b hb e => hb.2.2.2 (by rw [e]; rfl)) (fun b hb => hb) _ _ this
end
end Go.Proofs.Ytddichibegppjaa
