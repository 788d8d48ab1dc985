/- The reference's reader of expressions: sets. -/
import Derived.Test.YtddichibegppjaaZaa6432f
import Derived.Test.YtddichibegppjaaP4
import Derived.Test.YtddichibegppjaaVo
import Derived.Test.YtddichibegppjaaP7
import Derived.Test.YtddichibegppjaaVs
import Derived.Test.YtddichibegppjaaP7b
import Derived.Test.YtddichibegppjaaP9
import Derived.Test.YtddichibegppjaaP6
set_option linter.unusedSimpArgs false
set_option linter.unusedVariables false
set_option maxRecDepth 100000
set_option maxHeartbeats 8000000
attribute [local irreducible] Go.VC.OpV Go.VC.CallV Go.VC.Wp Go.VC.post
namespace Go.Proofs.Ytddichibegppjaa
open Go Go.VC

theorem item3_more (l : List UInt8) (s : S3) (set : List Bool) (h : s.i < l.length) (hf : s.f = 0) (hr : (item3 l s set).2.2.f = 0) : s.i < (item3 l s set).2.2.i := by
  have hfail : ∀ k : Int, k ≠ 0 → ∀ t : S3, t.f = 0 → (t.fail k).f ≠ 0 := by
    intro k hk t ht; unfold S3.fail; rw [if_pos ht]; exact hk
  unfold item3 at hr ⊢
  split at hr
  · simp only [] at hr
    split at hr
    · exact absurd hr (hfail 2 (by decide) s hf)
    · split at hr
      · rename_i h1 h2 h3
        rw [if_pos h1]
        simp only []
        rw [if_neg h2, if_pos h3]
        have := clEnd_le l l.length (s.i + 2)
        show s.i < clEnd l l.length (s.i + 2) + 2
        omega
      · exact absurd hr (hfail 2 (by decide) s hf)
  · rename_i h1
    rw [if_neg h1]
    split at hr
    · rename_i h2
      rw [if_pos h2]
      simp only at hr ⊢
      unfold escape3 at hr ⊢
      split
      · split
        · have := oct3_i l 3 (s.i + 1) 0
          show s.i < (oct3 l 3 (s.i + 1) 0).2
          omega
        · show s.i < s.i + 2; omega
      · rename_i h3
        rw [if_neg h3] at hr
        exact absurd hr (hfail 4 (by decide) s.on hf)
    · rename_i h2
      rw [if_neg h2]
      show s.i < s.i + 1
      omega

/-- A range, put in up to a place. -/
def putK (set : List Bool) (lo k : Nat) : List Bool := set.zipIdx.map fun (b, j) => b || (decide (lo ≤ j) && decide (j < k))
theorem putK_len (set : List Bool) (lo k : Nat) : (putK set lo k).length = set.length := by simp [putK]
theorem putK_get (set : List Bool) (lo k j : Nat) : (putK set lo k)[j]? = set[j]?.map fun b => b || (decide (lo ≤ j) && decide (j < k)) := by
  simp [putK, List.getElem?_zipIdx]
  cases set[j]? <;> simp
theorem putK_zero (set : List Bool) (lo : Nat) : putK set lo lo = set := by
  refine List.ext_getElem? fun j => ?_
  rw [putK_get]
  cases set[j]? with
  | none => rfl
  | some b => simp; intros; omega
theorem putK_all (set : List Bool) (lo hi : Nat) : putK set lo (hi + 1) = putR set lo hi := by
  refine List.ext_getElem? fun j => ?_
  rw [putK_get]
  simp only [putR, List.getElem?_map, List.getElem?_zipIdx, Nat.zero_add]
  have : decide (j < hi + 1) = decide (j ≤ hi) := by rw [decide_eq_decide]; omega
  cases set[j]? <;> simp [this]
theorem putK_succ (set : List Bool) (lo k : Nat) (hk : k < set.length) (hl : lo ≤ k) : putK set lo (k + 1) = (putK set lo k).set k true := by
  refine List.ext_getElem? fun j => ?_
  rw [List.getElem?_set, putK_get, putK_get, putK_len]
  split
  · rename_i e
    subst e
    rw [List.getElem?_eq_getElem hk]
    simp [hk, hl]
  · rename_i e
    have : (decide (j < k + 1)) = decide (j < k) := by
      rw [decide_eq_decide]; omega
    rw [this]
theorem bools_set (set : List Bool) (k : Nat) (b : Bool) : (bools set).set k (.bool b) = bools (set.set k b) := by simp [bools, List.map_set]
theorem bools_get (set : List Bool) (k : Nat) (h : k < set.length) : (bools set)[k]? = some (.bool (set.getD k false)) := by
  simp [bools, List.getElem?_eq_getElem h, List.getD_eq_getElem?_getD]
/-- The first of them. -/
def bytesK (set : List Bool) (not : Bool) (n : Nat) : List UInt8 := (List.range n).filterMap fun k => if (set.getD k false != not) = true then some (UInt8.ofNat k) else none
theorem bytesK_succ (set : List Bool) (not : Bool) (n : Nat) : bytesK set not (n + 1) = if (set.getD n false != not) = true then bytesK set not n ++ [UInt8.ofNat n] else bytesK set not n := by
  unfold bytesK
  rw [List.range_succ, List.filterMap_append]
  by_cases h : (set.getD n false != not) = true
  · simp only [List.filterMap_cons, List.filterMap_nil, if_pos h]
  · simp only [List.filterMap_cons, List.filterMap_nil, if_neg h, List.append_nil]
theorem bytesK_len (set : List Bool) (not : Bool) (n : Nat) : (bytesK set not n).length ≤ n := by
  have := List.length_filterMap_le (fun k => if (set.getD k false != not) = true then some (UInt8.ofNat k) else none) (List.range n)
  simpa [bytesK] using this

/-- What a reader's part brings: a tree, and where it stands. -/
abbrev OutRe (w : World) (a : Nat) (l : List UInt8) (r : Option (Re × S3)) (e : Ending) (w' : World) : Prop :=
  ∃ t s' cs, r = some (t, s') ∧ e = .returned (.agg cs.toArray) ∧ IsRe w' (fun b => w.heap.size ≤ b ∧ b < w'.heap.size) t cs ∧ At3 w' a l s' ∧ Kp (· = a) w w'

theorem zRe_is (w : World) (D : Nat → Prop) : IsRe w D Re.zero zRe := by
  simp only [Re.zero, IsRe]
  exact ⟨none, 0, rfl, .inl trivial⟩
theorem set_is (w : World) (D : Nat → Prop) (op set : List UInt8) : IsRe w D (.node op set [] 0 0) [.string (B op), .string (B set), .slice none 0 0, .int .i64 0, .int .i64 0] := by
  simp only [IsRe]
  exact ⟨none, 0, rfl, .inl trivial⟩

section
variable {a g : Nat} {l : List UInt8} {s s' : S3} {w w1 w2 : World} {set : List Bool}

/-- Where a set's reader stands: its own place, the result, the set. -/
structure Br (w : World) (a : Nat) (l : List UInt8) (s : S3) (set : List Bool) (w' : World) : Prop where
  at_ : At3 w' a l s
  r : Blk w' w.heap.size 33 zRe
  g : Blk w' (w.heap.size + 1) 4 (bools set)
  kp : Kp (· = a) w w'
  lt : a < w.heap.size
  len : set.length = 256
theorem Br.keep (h : Br w a l s set w1) (h2 : At3 w2 a l s') (hk : Kp (· = a) w1 w2) : Br w a l s' set w2 :=
  ⟨h2, hk.Blk h.r (by have := h.lt; omega), hk.Blk h.g (by have := h.lt; omega), h.kp.trans hk, h.lt, h.len⟩
theorem Br.seta (h : Br w a l s set w1) {j : Nat} {v : Value} (h2 : At3 (w1.setCell ⟨a, j, none⟩ v) a l s') : Br w a l s' set (w1.setCell ⟨a, j, none⟩ v) :=
  h.keep h2 ((Kp.refl (· = a) w1).setCell (p := ⟨a, j, none⟩) (fun _ => rfl) _)
theorem Br.setg (h : Br w a l s set w1) (k : Nat) (b : Bool) : Br w a l s (set.set k b) (w1.setCell ⟨w.heap.size + 1, k, none⟩ (.bool b)) :=
  ⟨h.at_.far (p := ⟨w.heap.size + 1, k, none⟩) (Nat.ne_of_lt (Nat.lt_succ_of_lt h.lt)) _, h.r.far (p := ⟨w.heap.size + 1, k, none⟩) (Nat.ne_of_lt (Nat.lt_succ_self _)) _,
    by have := h.g.set k (.bool b); rwa [bools_set] at this, h.kp.setCell (p := ⟨w.heap.size + 1, k, none⟩) (fun h' => absurd h' (Nat.not_lt.2 (Nat.le_succ _))) _, h.lt, by simpa using h.len⟩
theorem Br.out (h : Br w a l s' set w1) {r : Option (Re × S3)} {t : Re} {cs : List Value} {F : Fr} (hr : r = some (t, s')) (hF : F 2 = .pointer (some ⟨w.heap.size, 0, none⟩)) (hl : cs.length = 5) (ht : ∀ w', IsRe w' (fun b => w.heap.size ≤ b ∧ b < w'.heap.size) t cs) :
    post Try.prog [.cell 2 33] (OutRe w a l r) .mk .ret F (w1.setCells w.heap.size 0 cs) := by
  have h2 := (h.r.setAll (vs := cs) hl).rdn
  rw [hl] at h2
  exact post_cell hF tk_33 h2 ⟨t, s', cs, hr, rfl, ht _, Blk.farCells (Nat.ne_of_lt h.lt) _ _ _ h.at_, Kp.setCells h.kp (fun h' => absurd h' (Nat.lt_irrefl _)) _ _⟩
theorem Br.item (h : Br w a l s set w1) {set' : List Bool} (h2 : At3 w2 a l s') (hg : Blk w2 (w.heap.size + 1) 4 (bools set')) (hl : set'.length = set.length) (hk : Kp (fun b => b = a ∨ b = w.heap.size + 1) w1 w2) : Br w a l s' set' w2 :=
  ⟨h2, hk.Blk h.r (by have := h.lt; omega), hg, h.kp.trans' hk (fun i hi e => by have := h.lt; omega), h.lt, hl.trans h.len⟩
theorem Br.item2 (h : Br w a l s set w1) {o : Obj} {g : Nat} (hg : g = w1.heap.size) (h2 : At3 w2 a l s') (hk : Kp (fun b => b = a ∨ b = g) (w1.alloc o) w2) : Br w a l s' set w2 := by
  have h1 := h.r.lt
  have h3 := h.g.lt
  exact ⟨h2, hk.Blk (h.r.alloc o) (by have := h.lt; omega), hk.Blk (h.g.alloc o) (by have := h.lt; omega), (h.kp.alloc o).trans' hk (fun i hi e => by have := h.lt; omega), h.lt, h.len⟩
theorem Br.grown (h : Br w a l s set w1) {o : Obj} {A : Option Addr} (hg : (w1.alloc o).grownBy w2 (bk A)) (hA : ∀ g, bk A = some g → w.heap.size + 1 < g) : Br w a l s set w2 := by
  have h1 := h.r.lt
  have h3 := h.g.lt
  have h4 := h.at_.lt
  have h5 := h.lt
  have hne : ∀ b, b ≤ w.heap.size + 1 → some b ≠ bk A := fun b hb e => by have := hA b e.symm; omega
  exact ⟨(h.at_.alloc o).keep (hg.block a (by simp; omega) (hne _ (by omega))), (h.r.alloc o).keep (hg.block _ (by simp; omega) (hne _ (by omega))), (h.g.alloc o).keep (hg.block _ (by simp; omega) (hne _ (by omega))),
    (h.kp.alloc o).grown hg (fun k hk hl => by have := hA k hk; omega), h.lt, h.len⟩
theorem Br.drew (h : Br w a l s set w1) : Br w a l s set w1.drew := h.keep h.at_.drew (Kp.refl _ w1).drew

theorem bracket3_any (h : At3 w a l s) (hl : l.length ≤ 1000000) (hi : s.i < l.length) :
    Calls Try.prog 94 #[.pointer (some ⟨a, 0, none⟩)] w (OutRe w a l (bracket3 l s)) := by
  have hlt := h.lt
  refine enter (n := 183) (args := [.pointer (some ⟨a, 0, none⟩)]) Try.func94 rfl rfl rfl (by simp) ?_
  refine Wp.seq (Wp.region rfl ?_)
  simp -dsimp (maxSteps := 2000000) (disch := first | omega | (simp only [qZ] <;> omega) | fail) only [push_cast, ↓qP, ↓reduceIte, Nat.reduceEqDiff, Nat.reduceAdd, Nat.reduceMul, Nat.reduceSub, Nat.reduceLeDiff, Int.reduceToNat, reduceCtorEq]
  refine Wp.seq (Wp.region rfl ?_)
  simp -dsimp (maxSteps := 2000000) (disch := first | omega | (simp only [qZ] <;> omega) | fail) only [push_cast, ↓qP, ↓reduceIte, Nat.reduceEqDiff, Nat.reduceAdd, Nat.reduceMul, Nat.reduceSub, Nat.reduceLeDiff, Int.reduceToNat, reduceCtorEq, h.rdc, h.fz]
  refine Wp.seq (Wp.region rfl ?_)
  simp -dsimp (maxSteps := 2000000) (disch := first | omega | (simp only [qZ] <;> omega) | fail) only [push_cast, ↓qP, ↓reduceIte, Nat.reduceEqDiff, Nat.reduceAdd, Nat.reduceMul, Nat.reduceSub, Nat.reduceLeDiff, Int.reduceToNat, reduceCtorEq]
  refine ⟨by omega, ?_⟩
  refine Wp.seq (Wp.region rfl ?_)
  simp -dsimp (maxSteps := 2000000) (disch := first | omega | (simp only [qZ] <;> omega) | fail) only [push_cast, ↓qP, ↓reduceIte, Nat.reduceEqDiff, Nat.reduceAdd, Nat.reduceMul, Nat.reduceSub, Nat.reduceLeDiff, Int.reduceToNat, reduceCtorEq]
  refine Wp.cut (fun F' w' => F' 0 = .pointer (some ⟨a, 0, none⟩) ∧ F' 2 = .pointer (some ⟨w.heap.size, 0, none⟩) ∧ F' 3 = .slice (some ⟨w.heap.size + 1, 0, none⟩) 256 256 ∧
    ∃ nt s2, F' 4 = .bool nt ∧ nt = (more3 l s.on && byteAt l (s.i + 1) == 94) ∧ s2 = (if nt then s.on.on else s.on) ∧ Br w a l s2 noSet w') ?_ ?_
  · repeat (first | refine qS ?_ | refine qB ?_ | refine qT rfl ?_ | refine qF rfl ?_ | ((first | refine qR rfl ?_ | refine qK ?_ | refine qE ?_ | refine qW ?_ | refine qM ?_); try simp -dsimp (maxSteps := 2000000) (disch := first | omega | (simp only [qZ] <;> omega) | fail) only [push_cast, ↓qP, ↓reduceIte, Nat.reduceEqDiff, Nat.reduceAdd, Nat.reduceMul, Nat.reduceSub, Nat.reduceLeDiff, Int.reduceToNat, reduceCtorEq]) | (refine qA ?_ ?_; (first | omega | (simp only [qL]; omega) | (simp only [qD] at *; omega))))
    refine CallV.gen (A := Br w a l s.on noSet) ⟨((h.alloc _).set 1 _).alloc _, ((Blk.new _ _ _).far (Nat.ne_of_gt hlt) _).alloc _, ?_, (((Kp.refl (· = a) w).alloc _).setCell (fun _ => rfl) _).alloc _, hlt, rfl⟩ ?_
    · have := Blk.new ((w.alloc (.cells zRe.toArray 33)).setCell ⟨a, 1, none⟩ (.int .i64 ((s.i : Int) + 1))) 4 (zeros [.bool false] 256)
      simpa [zeros_one, bools, noSet] using this
    intro w1 h1
    refine CallV.of isCall_71 (more3_any h1.at_) ?_
    rintro _ _ ⟨rfl, rfl⟩
    rcases Bool.eq_false_or_eq_true (more3 l s.on) with hm | hm
    · obtain ⟨hf0, hlt1⟩ := (more3_iff l s.on).1 hm
      refine Sm.out ?_
      repeat (first | refine qS ?_ | refine qB ?_ | refine qT rfl ?_ | refine qF rfl ?_ | ((first | refine qR rfl ?_ | refine qK ?_ | refine qE ?_ | refine qW ?_ | refine qM ?_); try simp -dsimp (maxSteps := 2000000) (disch := first | omega | (simp only [qZ] <;> omega) | fail) only [push_cast, ↓qP, ↓reduceIte, Nat.reduceEqDiff, Nat.reduceAdd, Nat.reduceMul, Nat.reduceSub, Nat.reduceLeDiff, Int.reduceToNat, reduceCtorEq, hm]) | (refine qA ?_ ?_; (first | omega | (simp only [qL]; omega) | (simp only [qD] at *; omega))))
      refine CallV.of isCall_72 (peek3 h1.at_.drew hlt1) ?_
      rintro _ _ ⟨rfl, rfl⟩
      have hltb := h1.at_.lt
      have e94 : (((byteAt l s.on.i).toNat : Int) == 94) = (byteAt l (s.i + 1) == 94) := u8_eq' _ 94
      rcases Bool.eq_false_or_eq_true (byteAt l (s.i + 1) == 94) with h94 | h94
      · refine Sm.out ?_
        repeat (first | refine qS ?_ | refine qB ?_ | refine qT rfl ?_ | refine qF rfl ?_ | ((first | refine qR rfl ?_ | refine qK ?_ | refine qE ?_ | refine qW ?_ | refine qM ?_); try simp -dsimp (maxSteps := 2000000) (disch := first | omega | (simp only [qZ] <;> omega) | fail) only [push_cast, ↓qP, ↓reduceIte, Nat.reduceEqDiff, Nat.reduceAdd, Nat.reduceMul, Nat.reduceSub, Nat.reduceLeDiff, Int.reduceToNat, reduceCtorEq, e94, h94, h1.at_.rdc, h1.at_.fz]) | (refine qA ?_ ?_; (first | omega | (simp only [qL]; omega) | (simp only [qD] at *; omega))))
        refine Mid.mk ⟨?_, ?_, ?_, true, s.on.on, ?_, by rw [hm, h94]; rfl, rfl, h1.drew.drew.seta (h1.drew.drew.at_.set 1 _)⟩
        all_goals (simp -dsimp (maxSteps := 2000000) (disch := first | omega | (simp only [qZ] <;> omega) | fail) only [push_cast, ↓qP, ↓reduceIte, Nat.reduceEqDiff, Nat.reduceAdd, Nat.reduceMul, Nat.reduceSub, Nat.reduceLeDiff, Int.reduceToNat, reduceCtorEq])
      · refine Sm.out ?_
        repeat (first | refine qS ?_ | refine qB ?_ | refine qT rfl ?_ | refine qF rfl ?_ | ((first | refine qR rfl ?_ | refine qK ?_ | refine qE ?_ | refine qW ?_ | refine qM ?_); try simp -dsimp (maxSteps := 2000000) (disch := first | omega | (simp only [qZ] <;> omega) | fail) only [push_cast, ↓qP, ↓reduceIte, Nat.reduceEqDiff, Nat.reduceAdd, Nat.reduceMul, Nat.reduceSub, Nat.reduceLeDiff, Int.reduceToNat, reduceCtorEq, e94, h94]) | (refine qA ?_ ?_; (first | omega | (simp only [qL]; omega) | (simp only [qD] at *; omega))))
        refine Mid.mk ⟨?_, ?_, ?_, false, s.on, ?_, by rw [hm, h94]; rfl, rfl, h1.drew.drew⟩
        all_goals (simp -dsimp (maxSteps := 2000000) (disch := first | omega | (simp only [qZ] <;> omega) | fail) only [push_cast, ↓qP, ↓reduceIte, Nat.reduceEqDiff, Nat.reduceAdd, Nat.reduceMul, Nat.reduceSub, Nat.reduceLeDiff, Int.reduceToNat, reduceCtorEq])
    · refine Sm.out ?_
      repeat (first | refine qS ?_ | refine qB ?_ | refine qT rfl ?_ | refine qF rfl ?_ | ((first | refine qR rfl ?_ | refine qK ?_ | refine qE ?_ | refine qW ?_ | refine qM ?_); try simp -dsimp (maxSteps := 2000000) (disch := first | omega | (simp only [qZ] <;> omega) | fail) only [push_cast, ↓qP, ↓reduceIte, Nat.reduceEqDiff, Nat.reduceAdd, Nat.reduceMul, Nat.reduceSub, Nat.reduceLeDiff, Int.reduceToNat, reduceCtorEq, hm]) | (refine qA ?_ ?_; (first | omega | (simp only [qL]; omega) | (simp only [qD] at *; omega))))
      refine Mid.mk ⟨?_, ?_, ?_, false, s.on, ?_, by rw [hm]; rfl, rfl, h1.drew⟩
      all_goals (simp -dsimp (maxSteps := 2000000) (disch := first | omega | (simp only [qZ] <;> omega) | fail) only [push_cast, ↓qP, ↓reduceIte, Nat.reduceEqDiff, Nat.reduceAdd, Nat.reduceMul, Nat.reduceSub, Nat.reduceLeDiff, Int.reduceToNat, reduceCtorEq])
  rintro F w1 ⟨f0, f2, f3, nt, s2, f4, hnt, hs2, h1⟩
  have hbr : bracket3 l s = match items3 l (l.length + 2) true noSet s2 with
      | none => none
      | some (none, s3) => some (Re.zero, s3)
      | some (some set, s3) => some (.node opSet (bytesOf set nt) [] 0 0, s3) := by
    rw [hs2, hnt]; rfl
  have hi2 : s2.i ≤ l.length + 1 ∧ s.i < s2.i := by
    rw [hs2]
    split
    · rename_i e
      rw [hnt] at e
      have := (more3_iff l s.on).1 (by simp at e; exact e.1)
      have h3 := this.2
      change s.i + 1 < _ at h3
      exact ⟨by show s.i + 1 + 1 ≤ _; omega, by show s.i < s.i + 1 + 1; omega⟩
    · exact ⟨by show s.i + 1 ≤ _; omega, by show s.i < s.i + 1; omega⟩
  clear hs2 hnt
  obtain ⟨R, hR⟩ : ∃ R, items3 l (l.length + 2) true noSet s2 = R := ⟨_, rfl⟩
  rw [hR] at hbr
  refine Wp.cutQ (fun F' w' => F' 2 = .pointer (some ⟨w.heap.size, 0, none⟩) ∧ F' 3 = .slice (some ⟨w.heap.size + 1, 0, none⟩) 256 256 ∧ F' 4 = .bool nt ∧
    ∃ set s3, R = some (some set, s3) ∧ Br w a l s3 set w') ?_ ?_
  · repeat (first | refine qS ?_ | refine qB ?_ | refine qT rfl ?_ | refine qF rfl ?_ | ((first | refine qR rfl ?_ | refine qK ?_ | refine qE ?_ | refine qW ?_ | refine qM ?_); try simp -dsimp (maxSteps := 2000000) (disch := first | omega | (simp only [qZ] <;> omega) | fail) only [push_cast, ↓qP, ↓reduceIte, Nat.reduceEqDiff, Nat.reduceAdd, Nat.reduceMul, Nat.reduceSub, Nat.reduceLeDiff, Int.reduceToNat, reduceCtorEq]) | (refine qA ?_ ?_; (first | omega | (simp only [qL]; omega) | (simp only [qD] at *; omega))))
    refine Wp.loop (α := Nat) (fun k F w2 => F 0 = .pointer (some ⟨a, 0, none⟩) ∧ F 2 = .pointer (some ⟨w.heap.size, 0, none⟩) ∧ F 3 = .slice (some ⟨w.heap.size + 1, 0, none⟩) 256 256 ∧ F 4 = .bool nt ∧
      ∃ first set s', F 5 = .bool first ∧ Br w a l s' set w2 ∧ s'.i ≤ l.length + 1 ∧ l.length + 2 ≤ s'.i + k ∧ Hide (items3 l k first set s' = R)) (fun k => k) (l.length + 2)
      ⟨by simp [upd, f0], by simp [upd, f2], by simp [upd, f3], by simp [upd, f4], true, noSet, s2, by simp [upd], h1, hi2.1, by omega, ⟨hR⟩⟩ ?_
    clear f0 f2 f3 f4 h1
    replace hbr : Hide _ := ⟨hbr⟩
    rintro k F w2 ⟨f0, f2, f3, f4, first, set, s', f5, h1, hi', hk, hit⟩
    obtain ⟨k, rfl⟩ : ∃ k', k = k' + 1 := ⟨k - 1, by omega⟩
    have hlta := h1.at_.lt
    have hltr := h1.r.lt
    have hltg := h1.g.lt
    have hrr := h1.r.rdc
    have hrz := h1.r.fz
    rcases Bool.eq_false_or_eq_true (s'.f != 0) with hf | hf
    · repeat (first | refine qS ?_ | refine qB ?_ | refine qT rfl ?_ | refine qF rfl ?_ | ((first | refine qR rfl ?_ | refine qK ?_ | refine qE ?_ | refine qW ?_ | refine qM ?_); try simp -dsimp (maxSteps := 2000000) (disch := first | omega | (simp only [qZ] <;> omega) | fail) only [push_cast, ↓qP, ↓reduceIte, Nat.reduceEqDiff, Nat.reduceAdd, Nat.reduceMul, Nat.reduceSub, Nat.reduceLeDiff, Int.reduceToNat, reduceCtorEq, f0, h1.at_.rdc, hf, f2, hrr, hrz]) | (refine qA ?_ ?_; (first | omega | (simp only [qL]; omega) | (simp only [qD] at *; omega))))
      exact h1.out (t := Re.zero) (cs := zRe) (by rw [hbr.out, ← hit.out]; simp only [items3]; rw [if_pos (by simpa using hf)]) (by simp [upd, f2]) rfl (fun w' => zRe_is _ _)
    have hf0 : s'.f = 0 := by simpa using hf
    have hit1 := hit.out.symm
    simp only [items3] at hit1
    rw [if_neg (by simpa using hf)] at hit1
    clear hit
    rcases Bool.eq_false_or_eq_true (decide ((s'.i : Int) ≥ (l.length : Int))) with hge | hge
    · rw [if_pos (by simpa using hge)] at hit1
      repeat (first | refine qS ?_ | refine qB ?_ | refine qT rfl ?_ | refine qF rfl ?_ | ((first | refine qR rfl ?_ | refine qK ?_ | refine qE ?_ | refine qW ?_ | refine qM ?_); try simp -dsimp (maxSteps := 2000000) (disch := first | omega | (simp only [qZ] <;> omega) | fail) only [push_cast, ↓qP, ↓reduceIte, Nat.reduceEqDiff, Nat.reduceAdd, Nat.reduceMul, Nat.reduceSub, Nat.reduceLeDiff, Int.reduceToNat, reduceCtorEq, f0, h1.at_.rdc, hf, f2]) | (refine qA ?_ ?_; (first | omega | (simp only [qL]; omega) | (simp only [qD] at *; omega))))
      refine Wp.draw [0, 1, 3, 7, 0, 16, 48, 112, 240, 511] [] (.op 0 false false [] <| .op 1 false false [] <| .op 2 false false [] <| .op 3 false false [] <| .op 4 false false [] <| .op 5 false false [] <| .op 6 false false [] <| .op 7 false false [] <| .op 8 false false [] <| .op 9 false false [] <| .nil) mixed (by kernel_rfl) ?_
      simp -dsimp (maxSteps := 2000000) (disch := first | omega | (simp only [qZ] <;> omega) | fail) only [push_cast, ↓qP, ↓reduceIte, Nat.reduceEqDiff, Nat.reduceAdd, Nat.reduceMul, Nat.reduceSub, Nat.reduceLeDiff, Int.reduceToNat, reduceCtorEq, h1.at_.rdc, f0, hge, f2]
      repeat (first | refine qS ?_ | refine qB ?_ | refine qT rfl ?_ | refine qF rfl ?_ | ((first | refine qR rfl ?_ | refine qK ?_ | refine qE ?_ | refine qW ?_ | refine qM ?_); try simp -dsimp (maxSteps := 2000000) (disch := first | omega | (simp only [qZ] <;> omega) | fail) only [push_cast, ↓qP, ↓reduceIte, Nat.reduceEqDiff, Nat.reduceAdd, Nat.reduceMul, Nat.reduceSub, Nat.reduceLeDiff, Int.reduceToNat, reduceCtorEq, f0, f2, hge]) | (refine qA ?_ ?_; (first | omega | (simp only [qL]; omega) | (simp only [qD] at *; omega))))
      refine CallV.of isCall_50 (fail3 h1.at_.drew 2) ?_
      rintro _ w3 ⟨rfl, h3, k3⟩
      have h4 := h1.drew.keep h3 k3
      have hltr := h4.r.lt
      have hrr := h4.r.rdc
      have hrz := h4.r.fz
      refine Sm.out ?_
      repeat (first | refine qS ?_ | refine qB ?_ | refine qT rfl ?_ | refine qF rfl ?_ | ((first | refine qR rfl ?_ | refine qK ?_ | refine qE ?_ | refine qW ?_ | refine qM ?_); try simp -dsimp (maxSteps := 2000000) (disch := first | omega | (simp only [qZ] <;> omega) | fail) only [push_cast, ↓qP, ↓reduceIte, Nat.reduceEqDiff, Nat.reduceAdd, Nat.reduceMul, Nat.reduceSub, Nat.reduceLeDiff, Int.reduceToNat, reduceCtorEq, f0, f2, hrr, hrz]) | (refine qA ?_ ?_; (first | omega | (simp only [qL]; omega) | (simp only [qD] at *; omega))))
      exact h4.out (t := Re.zero) (cs := zRe) (by rw [hbr.out, hit1]) (by simp [upd, f2]) rfl (fun w' => zRe_is _ _)
    have hlt2 : s'.i < l.length := by simpa using hge
    rw [if_neg (by simpa using hge)] at hit1
    repeat (first | refine qS ?_ | refine qB ?_ | refine qT rfl ?_ | refine qF rfl ?_ | ((first | refine qR rfl ?_ | refine qK ?_ | refine qE ?_ | refine qW ?_ | refine qM ?_); try simp -dsimp (maxSteps := 2000000) (disch := first | omega | (simp only [qZ] <;> omega) | fail) only [push_cast, ↓qP, ↓reduceIte, Nat.reduceEqDiff, Nat.reduceAdd, Nat.reduceMul, Nat.reduceSub, Nat.reduceLeDiff, Int.reduceToNat, reduceCtorEq, f0, h1.at_.rdc, hf]) | (refine qA ?_ ?_; (first | omega | (simp only [qL]; omega) | (simp only [qD] at *; omega))))
    refine Wp.draw [0, 1, 3, 7, 0, 16, 48, 112, 240, 511] [] (.op 0 false false [] <| .op 1 false false [] <| .op 2 false false [] <| .op 3 false false [] <| .op 4 false false [] <| .op 5 false false [] <| .op 6 false false [] <| .op 7 false false [] <| .op 8 false false [] <| .op 9 false false [] <| .nil) mixed (by kernel_rfl) ?_
    simp -dsimp (maxSteps := 2000000) (disch := first | omega | (simp only [qZ] <;> omega) | fail) only [push_cast, ↓qP, ↓reduceIte, Nat.reduceEqDiff, Nat.reduceAdd, Nat.reduceMul, Nat.reduceSub, Nat.reduceLeDiff, Int.reduceToNat, reduceCtorEq, h1.at_.rdc, f0, hge]
    refine Sm.out ?_
    repeat (first | ((fail_if_success (first | refine qY (n := 14) ?_ | refine qV (n := 14) ?_)); refine qS ?_) | refine qB ?_ | refine qT rfl ?_ | refine qF rfl ?_ | ((first | refine qR rfl ?_ | refine qK ?_ | refine qE ?_ | refine qW ?_ | refine qM ?_); try simp -dsimp (maxSteps := 2000000) (disch := first | omega | (simp only [qZ] <;> omega) | fail) only [push_cast, ↓qP, ↓reduceIte, Nat.reduceEqDiff, Nat.reduceAdd, Nat.reduceMul, Nat.reduceSub, Nat.reduceLeDiff, Int.reduceToNat, reduceCtorEq, f0, hge]) | (refine qA ?_ ?_; (first | omega | (simp only [qL]; omega) | (simp only [qD] at *; omega))))
    have h2 := h1.drew
    clear h1 hlta hltr hltg hrr hrz
    generalize w2.drew = w3 at *
    have hlta := h2.at_.lt
    have e93 : (((byteAt l s'.i).toNat : Int) == 93) = (byteAt l s'.i == 93) := u8_eq' _ 93
    rcases Bool.eq_false_or_eq_true (byteAt l s'.i == 93 && !first) with hcl | hcl
    · rw [if_pos hcl] at hit1
      simp only [Bool.and_eq_true, Bool.not_eq_true'] at hcl
      obtain ⟨hcl1, hcl2⟩ := hcl
      repeat (first | refine qS ?_ | refine qB ?_ | refine qT rfl ?_ | refine qF rfl ?_ | ((first | refine qR rfl ?_ | refine qK ?_ | refine qE ?_ | refine qW ?_ | refine qM ?_); try simp -dsimp (maxSteps := 2000000) (disch := first | omega | (simp only [qZ] <;> omega) | fail) only [push_cast, ↓qP, ↓reduceIte, Nat.reduceEqDiff, Nat.reduceAdd, Nat.reduceMul, Nat.reduceSub, Nat.reduceLeDiff, Int.reduceToNat, reduceCtorEq, f0]) | (refine qA ?_ ?_; (first | omega | (simp only [qL]; omega) | (simp only [qD] at *; omega))))
      refine CallV.of isCall_72 (peek3 h2.at_ hlt2) ?_
      rintro _ _ ⟨rfl, rfl⟩
      refine Sm.out ?_
      repeat (first | refine qS ?_ | refine qB ?_ | refine qT rfl ?_ | refine qF rfl ?_ | ((first | refine qR rfl ?_ | refine qK ?_ | refine qE ?_ | refine qW ?_ | refine qM ?_); try simp -dsimp (maxSteps := 2000000) (disch := first | omega | (simp only [qZ] <;> omega) | fail) only [push_cast, ↓qP, ↓reduceIte, Nat.reduceEqDiff, Nat.reduceAdd, Nat.reduceMul, Nat.reduceSub, Nat.reduceLeDiff, Int.reduceToNat, reduceCtorEq, f0, f2, f3, f4, f5, e93, hcl1, hcl2, h2.at_.rdc, h2.at_.fz]) | (refine qA ?_ ?_; (first | omega | (simp only [qL]; omega) | (simp only [qD] at *; omega))))
      exact Mid.mk ⟨by simp [upd, f2], by simp [upd, f3], by simp [upd, f4], set, s'.on, hit1, h2.drew.seta (h2.drew.at_.set 1 _)⟩
    rw [if_neg (by rw [hcl]; simp)] at hit1
    refine Wp.cut (fun F w4 => F 0 = .pointer (some ⟨a, 0, none⟩) ∧ F 2 = .pointer (some ⟨w.heap.size, 0, none⟩) ∧ F 3 = .slice (some ⟨w.heap.size + 1, 0, none⟩) 256 256 ∧ F 4 = .bool nt ∧ Br w a l s' set w4) ?_ ?_
    · repeat (first | refine qS ?_ | refine qB ?_ | refine qT rfl ?_ | refine qF rfl ?_ | ((first | refine qR rfl ?_ | refine qK ?_ | refine qE ?_ | refine qW ?_ | refine qM ?_); try simp -dsimp (maxSteps := 2000000) (disch := first | omega | (simp only [qZ] <;> omega) | fail) only [push_cast, ↓qP, ↓reduceIte, Nat.reduceEqDiff, Nat.reduceAdd, Nat.reduceMul, Nat.reduceSub, Nat.reduceLeDiff, Int.reduceToNat, reduceCtorEq, f0]) | (refine qA ?_ ?_; (first | omega | (simp only [qL]; omega) | (simp only [qD] at *; omega))))
      refine CallV.of isCall_72 (peek3 h2.at_ hlt2) ?_
      rintro _ _ ⟨rfl, rfl⟩
      rcases Bool.eq_false_or_eq_true (byteAt l s'.i == 93) with hcl1 | hcl1
      · have hcl2 : first = true := by rw [hcl1] at hcl; simpa using hcl
        refine Sm.out ?_
        repeat (first | refine qS ?_ | refine qB ?_ | refine qT rfl ?_ | refine qF rfl ?_ | ((first | refine qR rfl ?_ | refine qK ?_ | refine qE ?_ | refine qW ?_ | refine qM ?_); try simp -dsimp (maxSteps := 2000000) (disch := first | omega | (simp only [qZ] <;> omega) | fail) only [push_cast, ↓qP, ↓reduceIte, Nat.reduceEqDiff, Nat.reduceAdd, Nat.reduceMul, Nat.reduceSub, Nat.reduceLeDiff, Int.reduceToNat, reduceCtorEq, f0, f2, f3, f4, f5, e93, hcl1, hcl2]) | (refine qA ?_ ?_; (first | omega | (simp only [qL]; omega) | (simp only [qD] at *; omega))))
        exact Mid.mk ⟨by simp [upd, f0], by simp [upd, f2], by simp [upd, f3], by simp [upd, f4], h2.drew⟩
      · refine Sm.out ?_
        repeat (first | refine qS ?_ | refine qB ?_ | refine qT rfl ?_ | refine qF rfl ?_ | ((first | refine qR rfl ?_ | refine qK ?_ | refine qE ?_ | refine qW ?_ | refine qM ?_); try simp -dsimp (maxSteps := 2000000) (disch := first | omega | (simp only [qZ] <;> omega) | fail) only [push_cast, ↓qP, ↓reduceIte, Nat.reduceEqDiff, Nat.reduceAdd, Nat.reduceMul, Nat.reduceSub, Nat.reduceLeDiff, Int.reduceToNat, reduceCtorEq, f0, f2, f3, f4, f5, e93, hcl1]) | (refine qA ?_ ?_; (first | omega | (simp only [qL]; omega) | (simp only [qD] at *; omega))))
        exact Mid.mk ⟨by simp [upd, f0], by simp [upd, f2], by simp [upd, f3], by simp [upd, f4], h2.drew⟩
    clear f0 f2 f3 f4 f5 h2 hcl e93 hlta
    rintro F w4 ⟨f0, f2, f3, f4, h2⟩
    repeat (first | refine qS ?_ | refine qB ?_ | refine qT rfl ?_ | refine qF rfl ?_ | ((first | refine qR rfl ?_ | refine qK ?_ | refine qE ?_ | refine qW ?_ | refine qM ?_); try simp -dsimp (maxSteps := 2000000) (disch := first | omega | (simp only [qZ] <;> omega) | fail) only [push_cast, ↓qP, ↓reduceIte, Nat.reduceEqDiff, Nat.reduceAdd, Nat.reduceMul, Nat.reduceSub, Nat.reduceLeDiff, Int.reduceToNat, reduceCtorEq, f0, f3]) | (refine qA ?_ ?_; (first | omega | (simp only [qL]; omega) | (simp only [qD] at *; omega))))
    refine CallV.of isCall_101 (item3_any h2.at_ h2.g h2.len hl hlt2) ?_
    rintro _ w5 ⟨rfl, h3, hg3, k3⟩
    obtain ⟨q1, q2, q3, q4⟩ := item3_facts l s' set hlt2
    have q5 := item3_more l s' set hlt2 hf0
    have h4 := h2.item h3 hg3 q4 k3
    have q6 : (item3 l s' set).2.1.length = 256 := q4.trans h2.len
    clear h2 h3 hg3 k3
    generalize item3 l s' set = r1 at *
    obtain ⟨⟨lo, single⟩, set1, s1⟩ := r1
    simp only at hit1 h4 q1 q2 q3 q4 q5 q6
    have hlta := h4.at_.lt
    have hltr := h4.r.lt
    have hrr := h4.r.rdc
    have hrz := h4.r.fz
    have hhi := hi
    rcases Bool.eq_false_or_eq_true (s1.f != 0) with hf1 | hf1
    · rw [if_pos (by simpa using hf1)] at hit1
      refine Sm.out ?_
      repeat (first | refine qS ?_ | refine qB ?_ | refine qT rfl ?_ | refine qF rfl ?_ | ((first | refine qR rfl ?_ | refine qK ?_ | refine qE ?_ | refine qW ?_ | refine qM ?_); try simp -dsimp (maxSteps := 2000000) (disch := first | omega | (simp only [qZ] <;> omega) | fail) only [push_cast, ↓qP, ↓reduceIte, Nat.reduceEqDiff, Nat.reduceAdd, Nat.reduceMul, Nat.reduceSub, Nat.reduceLeDiff, Int.reduceToNat, reduceCtorEq, f0, f2, f3, h4.at_.rdc, hf1, hrr, hrz]) | (refine qA ?_ ?_; (first | omega | (simp only [qL]; omega) | (simp only [qD] at *; omega))))
      exact h4.out (t := Re.zero) (cs := zRe) (by rw [hbr.out, hit1]) (by simp [upd, f2]) rfl (fun w' => zRe_is _ _)
    rw [if_neg (by simpa using hf1)] at hit1
    have hs1 : s1.f = 0 := by simpa using hf1
    have q5' := q5 hs1
    clear q5
    have hix : ((s1.i : Int) + 1).toNat = s1.i + 1 := by omega
    have e45 : (((byteAt l s1.i).toNat : Int) == 45) = (byteAt l s1.i == 45) := u8_eq' _ 45
    have e93 : (((byteAt l (s1.i + 1)).toNat : Int) != 93) = !(byteAt l (s1.i + 1) == 93) := congrArg (! ·) (u8_eq' (byteAt l (s1.i + 1)) 93)
    refine Sm.out ?_
    repeat (first | ((fail_if_success (first | refine qY (n := 19) ?_ | refine qV (n := 19) ?_)); refine qS ?_) | refine qB ?_ | refine qT rfl ?_ | refine qF rfl ?_ | ((first | refine qR rfl ?_ | refine qK ?_ | refine qE ?_ | refine qW ?_ | refine qM ?_); try simp -dsimp (maxSteps := 2000000) (disch := first | omega | (simp only [qZ] <;> omega) | fail) only [push_cast, ↓qP, ↓reduceIte, Nat.reduceEqDiff, Nat.reduceAdd, Nat.reduceMul, Nat.reduceSub, Nat.reduceLeDiff, Int.reduceToNat, reduceCtorEq, f0, f2, f3, h4.at_.rdc, hf1]) | (refine qA ?_ ?_; (first | omega | (simp only [qL]; omega) | (simp only [qD] at *; omega))))
    refine Wp.cutQ (fun F w4 => F 0 = .pointer (some ⟨a, 0, none⟩) ∧ F 2 = .pointer (some ⟨w.heap.size, 0, none⟩) ∧ F 3 = .slice (some ⟨w.heap.size + 1, 0, none⟩) 256 256 ∧ F 4 = .bool nt ∧ F 6 = .int .u8 (lo.toNat : Int) ∧ F 7 = .bool single ∧ Br w a l s1 set1 w4 ∧
      R = items3 l k false (if single = true then set1.set lo.toNat true else set1) s1) ?_ ?_
    · rcases Bool.eq_false_or_eq_true (decide ((s1.i : Int) + 1 < (l.length : Int)) && byteAt l s1.i == 45 && !(byteAt l (s1.i + 1) == 93)) with hr | hr
      · rw [if_pos hr] at hit1
        simp only [Bool.and_eq_true] at hr
        obtain ⟨⟨c1, c2⟩, c3⟩ := hr
        have c1' : s1.i + 1 < l.length := by simp at c1; omega
        refine Wp.seq (Wp.draw [0, 1, 3, 7, 15, 0, 32, 96, 224, 480, 1023, 2047, 4095, 8191, 16383, 32767, 4095, 69631, 200703, 462847, 1048575, 2097151, 4194303, 8388607, 16777215, 33554431, 67108863, 134217727, 16777215, 285212671, 822083583, 1895825407, 4043309055, 8589934591, 17179869183, 34359738367] [] (.op 0 false false [] <| .op 1 false false [] <| .op 2 false false [] <| .op 3 false false [] <| .op 4 false false [] <| .op 5 false false [] <| .op 6 false false [] <| .op 7 false false [] <| .op 8 false false [] <| .op 9 false false [] <| .op 10 false false [] <| .op 11 false false [] <| .op 12 false false [] <| .op 13 false false [] <| .op 14 false false [] <| .op 15 false false [] <| .op 16 false false [] <| .op 17 false false [] <| .op 18 false false [] <| .op 19 false false [] <| .op 20 false false [] <| .op 21 false false [] <| .op 22 false false [] <| .op 23 false false [] <| .op 24 false false [] <| .op 25 false false [] <| .op 26 false false [] <| .op 27 false false [] <| .op 28 false false [] <| .op 29 false false [] <| .op 30 false false [] <| .op 31 false false [] <| .op 32 false false [] <| .op 33 false false [] <| .op 34 false false [] <| .op 35 false false [] <| .nil) mixed (by kernel_rfl) ?_)
        simp -dsimp (maxSteps := 2000000) (disch := first | omega | (simp only [qZ] <;> omega) | fail) only [push_cast, ↓qP, ↓reduceIte, Nat.reduceEqDiff, Nat.reduceAdd, Nat.reduceMul, Nat.reduceSub, Nat.reduceLeDiff, Int.reduceToNat, reduceCtorEq, h4.at_.rdc, f0, c1, e45, e93, c2, c3, hix]
        refine ⟨by omega, ?_⟩
        refine Sm.out ?_
        repeat (first | refine qS ?_ | refine qB ?_ | refine qT rfl ?_ | refine qF rfl ?_ | ((first | refine qR rfl ?_ | refine qK ?_ | refine qE ?_ | refine qW ?_ | refine qM ?_); try simp -dsimp (maxSteps := 2000000) (disch := first | omega | (simp only [qZ] <;> omega) | fail) only [push_cast, ↓qP, ↓reduceIte, Nat.reduceEqDiff, Nat.reduceAdd, Nat.reduceMul, Nat.reduceSub, Nat.reduceLeDiff, Int.reduceToNat, reduceCtorEq, f0, f2, f3, h4.at_.rdc, c1, c2, c3, e93, e45, hix]) | (refine qA ?_ ?_; (first | omega | (simp only [qL]; omega) | (simp only [qD] at *; omega))))
        have h5 := h4.drew
        cases single with
        | false =>
          rw [if_pos (show (!false) = true from rfl)] at hit1
          refine Sm.out ?_
          repeat (first | refine qS ?_ | refine qB ?_ | refine qT rfl ?_ | refine qF rfl ?_ | ((first | refine qR rfl ?_ | refine qK ?_ | refine qE ?_ | refine qW ?_ | refine qM ?_); try simp -dsimp (maxSteps := 2000000) (disch := first | omega | (simp only [qZ] <;> omega) | fail) only [push_cast, ↓qP, ↓reduceIte, Nat.reduceEqDiff, Nat.reduceAdd, Nat.reduceMul, Nat.reduceSub, Nat.reduceLeDiff, Int.reduceToNat, reduceCtorEq, f0, f2, f3]) | (refine qA ?_ ?_; (first | omega | (simp only [qL]; omega) | (simp only [qD] at *; omega))))
          refine CallV.of isCall_50 (fail3 h5.at_ 2) ?_
          rintro _ w6 ⟨rfl, h6, k6⟩
          have h7 := h5.keep h6 k6
          have hltr := h7.r.lt
          have hrr := h7.r.rdc
          have hrz := h7.r.fz
          refine Sm.out ?_
          repeat (first | refine qS ?_ | refine qB ?_ | refine qT rfl ?_ | refine qF rfl ?_ | ((first | refine qR rfl ?_ | refine qK ?_ | refine qE ?_ | refine qW ?_ | refine qM ?_); try simp -dsimp (maxSteps := 2000000) (disch := first | omega | (simp only [qZ] <;> omega) | fail) only [push_cast, ↓qP, ↓reduceIte, Nat.reduceEqDiff, Nat.reduceAdd, Nat.reduceMul, Nat.reduceSub, Nat.reduceLeDiff, Int.reduceToNat, reduceCtorEq, f0, f2, hrr, hrz]) | (refine qA ?_ ?_; (first | omega | (simp only [qL]; omega) | (simp only [qD] at *; omega))))
          exact h7.out (t := Re.zero) (cs := zRe) (by rw [hbr.out, hit1]) (by simp [upd, f2]) rfl (fun w' => zRe_is _ _)
        | true =>
          rw [if_neg (by simp)] at hit1
          refine Sm.out ?_
          repeat (first | ((fail_if_success (first | refine qY (n := 24) ?_ | refine qV (n := 24) ?_)); refine qS ?_) | refine qB ?_ | refine qT rfl ?_ | refine qF rfl ?_ | ((first | refine qR rfl ?_ | refine qK ?_ | refine qE ?_ | refine qW ?_ | refine qM ?_); try simp -dsimp (maxSteps := 2000000) (disch := first | omega | (simp only [qZ] <;> omega) | fail) only [push_cast, ↓qP, ↓reduceIte, Nat.reduceEqDiff, Nat.reduceAdd, Nat.reduceMul, Nat.reduceSub, Nat.reduceLeDiff, Int.reduceToNat, reduceCtorEq, f0, f2, f3, h4.at_.rdc, h4.at_.fz]) | (refine qA ?_ ?_; (first | omega | (simp only [qL]; omega) | (simp only [qD] at *; omega))))
          have h5 : Br w a l s1.on set1 (w5.drew.setCell ⟨a, 1, none⟩ (.int .i64 ((s1.i : Int) + 1))) := h5.seta (h5.at_.set 1 _)
          have e5 : (w5.drew.setCell ⟨a, 1, none⟩ (.int .i64 ((s1.i : Int) + 1))).heap.size = w5.heap.size := by simp
          clear hltr hrr hrz h4
          generalize (w5.drew.setCell ⟨a, 1, none⟩ (.int .i64 ((s1.i : Int) + 1))) = w6 at *
          rw [← e5] at hlta
          repeat (first | refine qS ?_ | refine qB ?_ | refine qT rfl ?_ | refine qF rfl ?_ | ((first | refine qR rfl ?_ | refine qK ?_ | refine qE ?_ | refine qW ?_ | refine qM ?_); try simp -dsimp (maxSteps := 2000000) (disch := first | omega | (simp only [qZ] <;> omega) | fail) only [push_cast, ↓qP, ↓reduceIte, Nat.reduceEqDiff, Nat.reduceAdd, Nat.reduceMul, Nat.reduceSub, Nat.reduceLeDiff, Int.reduceToNat, reduceCtorEq, f0, f2, f3]) | (refine qA ?_ ?_; (first | omega | (simp only [qL]; omega) | (simp only [qD] at *; omega))))
          have hson : s1.on.i = s1.i + 1 := rfl
          have hnew : Blk (w6.alloc (.cells (zeros [.bool false] 256).toArray 4)) w6.heap.size 4 (bools noSet) := by
            have := Blk.new w6 4 (zeros [.bool false] 256)
            simpa [zeros_one, bools, noSet] using this
          refine CallV.of isCall_101 (item3_any (h5.at_.alloc _) hnew rfl hl (by rw [hson]; exact c1')) ?_
          rintro _ w7 ⟨rfl, h6, _, k6⟩
          obtain ⟨q7, q8, q9, q10⟩ := item3_facts l s1.on noSet (by rw [hson]; exact c1')
          have h7 := h5.item2 rfl h6 k6
          clear h5 h6 k6 hnew e5
          rw [hson] at q7
          generalize item3 l s1.on noSet = r2 at *
          obtain ⟨⟨hi2, one⟩, set2, s3⟩ := r2
          simp only at hit1 h7 q7 q8 q9 q10
          have hltr := h7.r.lt
          have hrr := h7.r.rdc
          have hrz := h7.r.fz
          have hlta := h7.at_.lt
          refine Sm.out ?_
          repeat (first | ((fail_if_success (first | refine qY (n := 25) ?_ | refine qV (n := 25) ?_)); refine qS ?_) | refine qB ?_ | refine qT rfl ?_ | refine qF rfl ?_ | ((first | refine qR rfl ?_ | refine qK ?_ | refine qE ?_ | refine qW ?_ | refine qM ?_); try simp -dsimp (maxSteps := 2000000) (disch := first | omega | (simp only [qZ] <;> omega) | fail) only [push_cast, ↓qP, ↓reduceIte, Nat.reduceEqDiff, Nat.reduceAdd, Nat.reduceMul, Nat.reduceSub, Nat.reduceLeDiff, Int.reduceToNat, reduceCtorEq, f0, f2, f3]) | (refine qA ?_ ?_; (first | omega | (simp only [qL]; omega) | (simp only [qD] at *; omega))))
          rcases Bool.eq_false_or_eq_true (s3.f != 0) with hf2 | hf2
          · rw [if_pos (by simpa using hf2)] at hit1
            repeat (first | refine qS ?_ | refine qB ?_ | refine qT rfl ?_ | refine qF rfl ?_ | ((first | refine qR rfl ?_ | refine qK ?_ | refine qE ?_ | refine qW ?_ | refine qM ?_); try simp -dsimp (maxSteps := 2000000) (disch := first | omega | (simp only [qZ] <;> omega) | fail) only [push_cast, ↓qP, ↓reduceIte, Nat.reduceEqDiff, Nat.reduceAdd, Nat.reduceMul, Nat.reduceSub, Nat.reduceLeDiff, Int.reduceToNat, reduceCtorEq, f0, f2, f3, h7.at_.rdc, hf2, hrr, hrz]) | (refine qA ?_ ?_; (first | omega | (simp only [qL]; omega) | (simp only [qD] at *; omega))))
            exact h7.out (t := Re.zero) (cs := zRe) (by rw [hbr.out, hit1]) (by simp [upd, f2]) rfl (fun w' => zRe_is _ _)
          rw [if_neg (by simpa using hf2)] at hit1
          refine Sm.out ?_
          repeat (first | ((fail_if_success (first | refine qY (n := 27) ?_ | refine qV (n := 27) ?_)); refine qS ?_) | refine qB ?_ | refine qT rfl ?_ | refine qF rfl ?_ | ((first | refine qR rfl ?_ | refine qK ?_ | refine qE ?_ | refine qW ?_ | refine qM ?_); try simp -dsimp (maxSteps := 2000000) (disch := first | omega | (simp only [qZ] <;> omega) | fail) only [push_cast, ↓qP, ↓reduceIte, Nat.reduceEqDiff, Nat.reduceAdd, Nat.reduceMul, Nat.reduceSub, Nat.reduceLeDiff, Int.reduceToNat, reduceCtorEq, f0, f2, f3, h7.at_.rdc, hf2, by8]) | (refine qA ?_ ?_; (first | omega | (simp only [qL]; omega) | (simp only [qD] at *; omega))))
          have egt : decide ((lo.toNat : Int) > (hi2.toNat : Int)) = decide ((lo.toNat : Int) > (hi2.toNat : Int)) := rfl
          rcases Bool.eq_false_or_eq_true (!one || decide ((lo.toNat : Int) > (hi2.toNat : Int))) with hbad | hbad
          · rw [if_pos hbad] at hit1
            have hbad' : one = false ∨ (one = true ∧ decide ((lo.toNat : Int) > (hi2.toNat : Int)) = true) := by
              cases one <;> simp at hbad ⊢ <;> exact hbad
            clear hbad
            rcases hbad' with rfl | ⟨rfl, hbad⟩
            · repeat (first | refine qS ?_ | refine qB ?_ | refine qT rfl ?_ | refine qF rfl ?_ | ((first | refine qR rfl ?_ | refine qK ?_ | refine qE ?_ | refine qW ?_ | refine qM ?_); try simp -dsimp (maxSteps := 2000000) (disch := first | omega | (simp only [qZ] <;> omega) | fail) only [push_cast, ↓qP, ↓reduceIte, Nat.reduceEqDiff, Nat.reduceAdd, Nat.reduceMul, Nat.reduceSub, Nat.reduceLeDiff, Int.reduceToNat, reduceCtorEq, f0, f2, f3, by8]) | (refine qA ?_ ?_; (first | omega | (simp only [qL]; omega) | (simp only [qD] at *; omega))))
              refine CallV.of isCall_50 (fail3 h7.at_ 2) ?_
              rintro _ w8 ⟨rfl, h8, k8⟩
              have h9 := h7.keep h8 k8
              have hltr := h9.r.lt
              have hrr := h9.r.rdc
              have hrz := h9.r.fz
              refine Sm.out ?_
              repeat (first | refine qS ?_ | refine qB ?_ | refine qT rfl ?_ | refine qF rfl ?_ | ((first | refine qR rfl ?_ | refine qK ?_ | refine qE ?_ | refine qW ?_ | refine qM ?_); try simp -dsimp (maxSteps := 2000000) (disch := first | omega | (simp only [qZ] <;> omega) | fail) only [push_cast, ↓qP, ↓reduceIte, Nat.reduceEqDiff, Nat.reduceAdd, Nat.reduceMul, Nat.reduceSub, Nat.reduceLeDiff, Int.reduceToNat, reduceCtorEq, f0, f2, hrr, hrz]) | (refine qA ?_ ?_; (first | omega | (simp only [qL]; omega) | (simp only [qD] at *; omega))))
              exact h9.out (t := Re.zero) (cs := zRe) (by rw [hbr.out, hit1]) (by simp [upd, f2]) rfl (fun w' => zRe_is _ _)
            · repeat (first | refine qS ?_ | refine qB ?_ | refine qT rfl ?_ | refine qF rfl ?_ | ((first | refine qR rfl ?_ | refine qK ?_ | refine qE ?_ | refine qW ?_ | refine qM ?_); try simp -dsimp (maxSteps := 2000000) (disch := first | omega | (simp only [qZ] <;> omega) | fail) only [push_cast, ↓qP, ↓reduceIte, Nat.reduceEqDiff, Nat.reduceAdd, Nat.reduceMul, Nat.reduceSub, Nat.reduceLeDiff, Int.reduceToNat, reduceCtorEq, f0, f2, f3, hbad, by8]) | (refine qA ?_ ?_; (first | omega | (simp only [qL]; omega) | (simp only [qD] at *; omega))))
              refine CallV.of isCall_50 (fail3 h7.at_ 2) ?_
              rintro _ w8 ⟨rfl, h8, k8⟩
              have h9 := h7.keep h8 k8
              have hltr := h9.r.lt
              have hrr := h9.r.rdc
              have hrz := h9.r.fz
              refine Sm.out ?_
              repeat (first | refine qS ?_ | refine qB ?_ | refine qT rfl ?_ | refine qF rfl ?_ | ((first | refine qR rfl ?_ | refine qK ?_ | refine qE ?_ | refine qW ?_ | refine qM ?_); try simp -dsimp (maxSteps := 2000000) (disch := first | omega | (simp only [qZ] <;> omega) | fail) only [push_cast, ↓qP, ↓reduceIte, Nat.reduceEqDiff, Nat.reduceAdd, Nat.reduceMul, Nat.reduceSub, Nat.reduceLeDiff, Int.reduceToNat, reduceCtorEq, f0, f2, hrr, hrz]) | (refine qA ?_ ?_; (first | omega | (simp only [qL]; omega) | (simp only [qD] at *; omega))))
              exact h9.out (t := Re.zero) (cs := zRe) (by rw [hbr.out, hit1]) (by simp [upd, f2]) rfl (fun w' => zRe_is _ _)
          · rw [if_neg (by rw [hbad]; simp)] at hit1
            simp only [Bool.or_eq_false_iff, Bool.not_eq_false'] at hbad
            obtain ⟨rfl, hle⟩ := hbad
            have hle' : lo.toNat ≤ hi2.toNat := by simp at hle; omega
            have hlo := lo.toNat_lt
            have hhi2 := hi2.toNat_lt
            repeat (first | refine qS ?_ | refine qB ?_ | refine qT rfl ?_ | refine qF rfl ?_ | ((first | refine qR rfl ?_ | refine qK ?_ | refine qE ?_ | refine qW ?_ | refine qM ?_); try simp -dsimp (maxSteps := 2000000) (disch := first | omega | (simp only [qZ] <;> omega) | fail) only [push_cast, ↓qP, ↓reduceIte, Nat.reduceEqDiff, Nat.reduceAdd, Nat.reduceMul, Nat.reduceSub, Nat.reduceLeDiff, Int.reduceToNat, reduceCtorEq, f0, f2, f3, hle, by8]) | (refine qA ?_ ?_; (first | omega | (simp only [qL]; omega) | (simp only [qD] at *; omega))))
            refine Wp.loop (α := Nat) (fun k F w8 => F 0 = .pointer (some ⟨a, 0, none⟩) ∧ F 2 = .pointer (some ⟨w.heap.size, 0, none⟩) ∧ F 3 = .slice (some ⟨w.heap.size + 1, 0, none⟩) 256 256 ∧ F 4 = .bool nt ∧ F 8 = .int .u8 (hi2.toNat : Int) ∧ F 10 = .int .i64 k ∧ lo.toNat ≤ k ∧ k ≤ hi2.toNat + 1 ∧ Br w a l s3 (putK set1 lo.toNat k) w8) (fun k => hi2.toNat + 1 - k) lo.toNat
              ⟨by simp [upd, f0], by simp [upd, f2], by simp [upd, f3], by simp [upd, f4], by simp [upd], by simp [upd], by omega, by omega, by rw [putK_zero]; exact h7⟩ ?_
            clear f0 f2 f3 f4 h7 hltr hrr hrz hlta
            rintro k' F w8 ⟨f0, f2, f3, f4, f8, f10, hk1, hk2, h8⟩
            have hltg := h8.g.lt
            have hkl : k' < (putK set1 lo.toNat k').length ∨ 256 ≤ k' := by rw [putK_len, q6]; omega
            rcases Nat.lt_or_ge hi2.toNat k' with hend | hend
            · obtain rfl : k' = hi2.toNat + 1 := by omega
              have c1 : decide ((hi2.toNat : Int) + 1 ≤ (hi2.toNat : Int)) = false := decide_eq_false (by omega)
              rw [putK_all] at h8
              repeat (first | refine qS ?_ | refine qB ?_ | refine qT rfl ?_ | refine qF rfl ?_ | ((first | refine qR rfl ?_ | refine qK ?_ | refine qE ?_ | refine qW ?_ | refine qM ?_); try simp -dsimp (maxSteps := 2000000) (disch := first | omega | (simp only [qZ] <;> omega) | fail) only [push_cast, ↓qP, ↓reduceIte, Nat.reduceEqDiff, Nat.reduceAdd, Nat.reduceMul, Nat.reduceSub, Nat.reduceLeDiff, Int.reduceToNat, reduceCtorEq, f0, f2, f3, f4, f8, f10, c1]) | (refine qA ?_ ?_; (first | omega | (simp only [qL]; omega) | (simp only [qD] at *; omega))))
              refine Again.mk k ⟨by simp [upd, f0], by simp [upd, f2], by simp [upd, f3], by simp [upd, f4], false, _, s3, by simp [upd], h8, by omega, by omega, ⟨hit1.symm⟩⟩ (by omega)
            · have c1 : decide ((k' : Int) ≤ (hi2.toNat : Int)) = true := decide_eq_true (by omega)
              have hcell : rdc w8 (w.heap.size + 1) k' = some (.bool ((putK set1 lo.toNat k').getD k' false)) := by
                rw [h8.g.rdc]; exact bools_get _ _ (by rw [putK_len, q6]; omega)
              repeat (first | refine qS ?_ | refine qB ?_ | refine qT rfl ?_ | refine qF rfl ?_ | ((first | refine qR rfl ?_ | refine qK ?_ | refine qE ?_ | refine qW ?_ | refine qM ?_); try simp -dsimp (maxSteps := 2000000) (disch := first | omega | (simp only [qZ] <;> omega) | fail) only [push_cast, ↓qP, ↓reduceIte, Nat.reduceEqDiff, Nat.reduceAdd, Nat.reduceMul, Nat.reduceSub, Nat.reduceLeDiff, Int.reduceToNat, reduceCtorEq, f0, f2, f3, f4, f8, f10, c1, hcell, h8.g.fz]) | (refine qA ?_ ?_; (first | omega | (simp only [qL]; omega) | (simp only [qD] at *; omega))))
              refine Again.mk (k' + 1) ⟨by simp [upd, f0], by simp [upd, f2], by simp [upd, f3], by simp [upd, f4], by simp [upd, f8], by simp [upd], by omega, by omega, ?_⟩ (by omega)
              rw [putK_succ _ _ _ (by rw [q6]; omega) hk1]
              exact h8.setg k' true
      · rw [if_neg (by rw [hr]; simp)] at hit1
        rcases Bool.eq_false_or_eq_true (decide ((s1.i : Int) + 1 < (l.length : Int))) with c1 | c1
        · rcases Bool.eq_false_or_eq_true (byteAt l s1.i == 45) with c2 | c2
          · have c3 : (byteAt l (s1.i + 1) == 93) = true := by rw [c1, c2] at hr; simpa using hr
            refine Wp.seq (Wp.draw [0, 1, 3, 7, 15, 0, 32, 96, 224, 480, 1023, 2047, 4095, 8191, 16383, 32767, 4095, 69631, 200703, 462847, 1048575, 2097151, 4194303, 8388607, 16777215, 33554431, 67108863, 134217727, 16777215, 285212671, 822083583, 1895825407, 4043309055, 8589934591, 17179869183, 34359738367] [] (.op 0 false false [] <| .op 1 false false [] <| .op 2 false false [] <| .op 3 false false [] <| .op 4 false false [] <| .op 5 false false [] <| .op 6 false false [] <| .op 7 false false [] <| .op 8 false false [] <| .op 9 false false [] <| .op 10 false false [] <| .op 11 false false [] <| .op 12 false false [] <| .op 13 false false [] <| .op 14 false false [] <| .op 15 false false [] <| .op 16 false false [] <| .op 17 false false [] <| .op 18 false false [] <| .op 19 false false [] <| .op 20 false false [] <| .op 21 false false [] <| .op 22 false false [] <| .op 23 false false [] <| .op 24 false false [] <| .op 25 false false [] <| .op 26 false false [] <| .op 27 false false [] <| .op 28 false false [] <| .op 29 false false [] <| .op 30 false false [] <| .op 31 false false [] <| .op 32 false false [] <| .op 33 false false [] <| .op 34 false false [] <| .op 35 false false [] <| .nil) mixed (by kernel_rfl) ?_)
            simp -dsimp (maxSteps := 2000000) (disch := first | omega | (simp only [qZ] <;> omega) | fail) only [push_cast, ↓qP, ↓reduceIte, Nat.reduceEqDiff, Nat.reduceAdd, Nat.reduceMul, Nat.reduceSub, Nat.reduceLeDiff, Int.reduceToNat, reduceCtorEq, h4.at_.rdc, f0, c1, e45, e93, c2, c3, hix]
            refine ⟨by simp at c1; omega, ?_⟩
            refine Sm.out ?_
            repeat (first | refine qS ?_ | refine qB ?_ | refine qT rfl ?_ | refine qF rfl ?_ | ((first | refine qR rfl ?_ | refine qK ?_ | refine qE ?_ | refine qW ?_ | refine qM ?_); try simp -dsimp (maxSteps := 2000000) (disch := first | omega | (simp only [qZ] <;> omega) | fail) only [push_cast, ↓qP, ↓reduceIte, Nat.reduceEqDiff, Nat.reduceAdd, Nat.reduceMul, Nat.reduceSub, Nat.reduceLeDiff, Int.reduceToNat, reduceCtorEq, f0, f2, f3, h4.at_.rdc, c1, c2, c3, e93, e45, hix]) | (refine qA ?_ ?_; (first | omega | (simp only [qL]; omega) | (simp only [qD] at *; omega))))
            exact Mid.mk ⟨by simp [upd, f0], by simp [upd, f2], by simp [upd, f3], by simp [upd, f4], by simp [upd, by8], by simp [upd], h4.drew, hit1⟩
          · refine Wp.seq (Wp.draw [0, 1, 3, 7, 15, 0, 32, 96, 224, 480, 1023, 2047, 4095, 8191, 16383, 32767, 4095, 69631, 200703, 462847, 1048575, 2097151, 4194303, 8388607, 16777215, 33554431, 67108863, 134217727, 16777215, 285212671, 822083583, 1895825407, 4043309055, 8589934591, 17179869183, 34359738367] [] (.op 0 false false [] <| .op 1 false false [] <| .op 2 false false [] <| .op 3 false false [] <| .op 4 false false [] <| .op 5 false false [] <| .op 6 false false [] <| .op 7 false false [] <| .op 8 false false [] <| .op 9 false false [] <| .op 10 false false [] <| .op 11 false false [] <| .op 12 false false [] <| .op 13 false false [] <| .op 14 false false [] <| .op 15 false false [] <| .op 16 false false [] <| .op 17 false false [] <| .op 18 false false [] <| .op 19 false false [] <| .op 20 false false [] <| .op 21 false false [] <| .op 22 false false [] <| .op 23 false false [] <| .op 24 false false [] <| .op 25 false false [] <| .op 26 false false [] <| .op 27 false false [] <| .op 28 false false [] <| .op 29 false false [] <| .op 30 false false [] <| .op 31 false false [] <| .op 32 false false [] <| .op 33 false false [] <| .op 34 false false [] <| .op 35 false false [] <| .nil) mixed (by kernel_rfl) ?_)
            simp -dsimp (maxSteps := 2000000) (disch := first | omega | (simp only [qZ] <;> omega) | fail) only [push_cast, ↓qP, ↓reduceIte, Nat.reduceEqDiff, Nat.reduceAdd, Nat.reduceMul, Nat.reduceSub, Nat.reduceLeDiff, Int.reduceToNat, reduceCtorEq, h4.at_.rdc, f0, c1, e45, e93, c2, hix]
            refine ⟨by simp at c1; omega, ?_⟩
            refine Sm.out ?_
            repeat (first | refine qS ?_ | refine qB ?_ | refine qT rfl ?_ | refine qF rfl ?_ | ((first | refine qR rfl ?_ | refine qK ?_ | refine qE ?_ | refine qW ?_ | refine qM ?_); try simp -dsimp (maxSteps := 2000000) (disch := first | omega | (simp only [qZ] <;> omega) | fail) only [push_cast, ↓qP, ↓reduceIte, Nat.reduceEqDiff, Nat.reduceAdd, Nat.reduceMul, Nat.reduceSub, Nat.reduceLeDiff, Int.reduceToNat, reduceCtorEq, f0, f2, f3, h4.at_.rdc, c1, c2, e93, e45, hix]) | (refine qA ?_ ?_; (first | omega | (simp only [qL]; omega) | (simp only [qD] at *; omega))))
            exact Mid.mk ⟨by simp [upd, f0], by simp [upd, f2], by simp [upd, f3], by simp [upd, f4], by simp [upd, by8], by simp [upd], h4.drew, hit1⟩
        · refine Wp.seq (Wp.draw [0, 1, 3, 7, 15, 0, 32, 96, 224, 480, 1023, 2047, 4095, 8191, 16383, 32767, 4095, 69631, 200703, 462847, 1048575, 2097151, 4194303, 8388607, 16777215, 33554431, 67108863, 134217727, 16777215, 285212671, 822083583, 1895825407, 4043309055, 8589934591, 17179869183, 34359738367] [] (.op 0 false false [] <| .op 1 false false [] <| .op 2 false false [] <| .op 3 false false [] <| .op 4 false false [] <| .op 5 false false [] <| .op 6 false false [] <| .op 7 false false [] <| .op 8 false false [] <| .op 9 false false [] <| .op 10 false false [] <| .op 11 false false [] <| .op 12 false false [] <| .op 13 false false [] <| .op 14 false false [] <| .op 15 false false [] <| .op 16 false false [] <| .op 17 false false [] <| .op 18 false false [] <| .op 19 false false [] <| .op 20 false false [] <| .op 21 false false [] <| .op 22 false false [] <| .op 23 false false [] <| .op 24 false false [] <| .op 25 false false [] <| .op 26 false false [] <| .op 27 false false [] <| .op 28 false false [] <| .op 29 false false [] <| .op 30 false false [] <| .op 31 false false [] <| .op 32 false false [] <| .op 33 false false [] <| .op 34 false false [] <| .op 35 false false [] <| .nil) mixed (by kernel_rfl) ?_)
          simp -dsimp (maxSteps := 2000000) (disch := first | omega | (simp only [qZ] <;> omega) | fail) only [push_cast, ↓qP, ↓reduceIte, Nat.reduceEqDiff, Nat.reduceAdd, Nat.reduceMul, Nat.reduceSub, Nat.reduceLeDiff, Int.reduceToNat, reduceCtorEq, h4.at_.rdc, f0, c1]
          refine Sm.out ?_
          repeat (first | refine qS ?_ | refine qB ?_ | refine qT rfl ?_ | refine qF rfl ?_ | ((first | refine qR rfl ?_ | refine qK ?_ | refine qE ?_ | refine qW ?_ | refine qM ?_); try simp -dsimp (maxSteps := 2000000) (disch := first | omega | (simp only [qZ] <;> omega) | fail) only [push_cast, ↓qP, ↓reduceIte, Nat.reduceEqDiff, Nat.reduceAdd, Nat.reduceMul, Nat.reduceSub, Nat.reduceLeDiff, Int.reduceToNat, reduceCtorEq, f0, f2, f3, h4.at_.rdc, c1]) | (refine qA ?_ ?_; (first | omega | (simp only [qL]; omega) | (simp only [qD] at *; omega))))
          exact Mid.mk ⟨by simp [upd, f0], by simp [upd, f2], by simp [upd, f3], by simp [upd, f4], by simp [upd, by8], by simp [upd], h4.drew, hit1⟩
    clear f0 f2 f3 f4
    intro F w4 hM
    obtain ⟨f0, f2, f3, f4, f6, f7, h5, hit2⟩ := hM.out
    have hlo := lo.toNat_lt
    have hltg := h5.g.lt
    have hcell : rdc w4 (w.heap.size + 1) lo.toNat = some (.bool (set1.getD lo.toNat false)) := by
      rw [h5.g.rdc]; exact bools_get _ _ (by rw [q6]; omega)
    cases single with
    | true =>
      repeat (first | refine qS ?_ | refine qB ?_ | refine qT rfl ?_ | refine qF rfl ?_ | ((first | refine qR rfl ?_ | refine qK ?_ | refine qE ?_ | refine qW ?_ | refine qM ?_); try simp -dsimp (maxSteps := 2000000) (disch := first | omega | (simp only [qZ] <;> omega) | fail) only [push_cast, ↓qP, ↓reduceIte, Nat.reduceEqDiff, Nat.reduceAdd, Nat.reduceMul, Nat.reduceSub, Nat.reduceLeDiff, Int.reduceToNat, reduceCtorEq, f0, f2, f3, f4, f6, f7, hcell, h5.g.fz]) | (refine qA ?_ ?_; (first | omega | (simp only [qL]; omega) | (simp only [qD] at *; omega))))
      exact Again.mk k ⟨by simp [upd, f0], by simp [upd, f2], by simp [upd, f3], by simp [upd, f4], false, _, s1, by simp [upd], h5.setg lo.toNat true, by omega, by omega, ⟨hit2.symm⟩⟩ (by omega)
    | false =>
      repeat (first | refine qS ?_ | refine qB ?_ | refine qT rfl ?_ | refine qF rfl ?_ | ((first | refine qR rfl ?_ | refine qK ?_ | refine qE ?_ | refine qW ?_ | refine qM ?_); try simp -dsimp (maxSteps := 2000000) (disch := first | omega | (simp only [qZ] <;> omega) | fail) only [push_cast, ↓qP, ↓reduceIte, Nat.reduceEqDiff, Nat.reduceAdd, Nat.reduceMul, Nat.reduceSub, Nat.reduceLeDiff, Int.reduceToNat, reduceCtorEq, f0, f2, f3, f4, f6, f7]) | (refine qA ?_ ?_; (first | omega | (simp only [qL]; omega) | (simp only [qD] at *; omega))))
      exact Again.mk k ⟨by simp [upd, f0], by simp [upd, f2], by simp [upd, f3], by simp [upd, f4], false, _, s1, by simp [upd], h5, by omega, by omega, ⟨hit2.symm⟩⟩ (by omega)
  clear f0 f2 f3 f4 h1
  intro F w1 hM
  obtain ⟨f2, f3, f4, set, s3, rfl, h1⟩ := hM.out
  repeat (first | refine qS ?_ | refine qB ?_ | refine qT rfl ?_ | refine qF rfl ?_ | ((first | refine qR rfl ?_ | refine qK ?_ | refine qE ?_ | refine qW ?_ | refine qM ?_); try simp -dsimp (maxSteps := 2000000) (disch := first | omega | (simp only [qZ] <;> omega) | fail) only [push_cast, ↓qP, ↓reduceIte, Nat.reduceEqDiff, Nat.reduceAdd, Nat.reduceMul, Nat.reduceSub, Nat.reduceLeDiff, Int.reduceToNat, reduceCtorEq, f2, f3, f4]) | (refine qA ?_ ?_; (first | omega | (simp only [qL]; omega) | (simp only [qD] at *; omega))))
  refine Wp.loop (α := Nat) (fun k F w2 => ∃ A n cap, F 2 = .pointer (some ⟨w.heap.size, 0, none⟩) ∧ F 3 = .slice (some ⟨w.heap.size + 1, 0, none⟩) 256 256 ∧ F 4 = .bool nt ∧ F 11 = .slice A n cap ∧ F 12 = .int .i64 k ∧ k ≤ 256 ∧
      Own w2 5 1 A n cap (by8s (bytesK set nt k)) ∧ n = (bytesK set nt k).length ∧ (∀ g, bk A = some g → w.heap.size + 1 < g) ∧ Br w a l s3 set w2) (fun k => 256 - k) 0
    ⟨none, 0, 0, by simp [upd, f2], by simp [upd, f3], by simp [upd, f4], by simp [upd], by simp [upd], by omega, Own.nil _ _ _, rfl, by simp [bk], h1⟩ ?_
  clear f2 f3 f4 h1
  rintro k F w2 ⟨A, n, cap, f2, f3, f4, f11, f12, hk, hown, hn, hnew, h1⟩
  have hltg := h1.g.lt
  by_cases hlt256 : k < 256
  · have c1 : decide ((k : Int) < 256) = true := decide_eq_true (by omega)
    have hcell : rdc w2 (w.heap.size + 1) k = some (.bool (set.getD k false)) := by
      rw [h1.g.rdc]; exact bools_get _ _ (by rw [h1.len]; omega)
    have hsucc := bytesK_succ set nt k
    have hnl := bytesK_len set nt k
    rcases Bool.eq_false_or_eq_true (!(set.getD k false == nt)) with hc | hc
    · rw [if_pos (show (set.getD k false != nt) = true from hc)] at hsucc
      repeat (first | refine qS ?_ | refine qB ?_ | refine qT rfl ?_ | refine qF rfl ?_ | ((first | refine qR rfl ?_ | refine qK ?_ | refine qE ?_ | refine qW ?_ | refine qM ?_); try simp -dsimp (maxSteps := 2000000) (disch := first | omega | (simp only [qZ] <;> omega) | fail) only [push_cast, ↓qP, ↓reduceIte, Nat.reduceEqDiff, Nat.reduceAdd, Nat.reduceMul, Nat.reduceSub, Nat.reduceLeDiff, Int.reduceToNat, reduceCtorEq, f2, f3, f4, f11, f12, c1, hcell, hc]) | (refine qA ?_ ?_; (first | omega | (simp only [qL]; omega) | (simp only [qD] at *; omega))))
      refine V_append (m := 1) _ _ _ rfl mk_63 rfl (hown.alloc _) rfl [.int .u8 k] ?r rfl (by omega) (by omega) ?kk
      case r => simp -dsimp (maxSteps := 2000000) (disch := first | omega | (simp only [qZ] <;> omega) | fail) only [push_cast, ↓qP, ↓reduceIte, Nat.reduceEqDiff, Nat.reduceAdd, Nat.reduceMul, Nat.reduceSub, Nat.reduceLeDiff, Int.reduceToNat, reduceCtorEq]
      case kk =>
        intro A' cap' w3 hown' hgrow hat
        have h2 := h1.grown hgrow hnew
        have hu : by8s [UInt8.ofNat k] = [.int .u8 k] := by simp [by8s, by8]; omega
        refine Sm.out ?_
        repeat (first | refine qS ?_ | refine qB ?_ | refine qT rfl ?_ | refine qF rfl ?_ | ((first | refine qR rfl ?_ | refine qK ?_ | refine qE ?_ | refine qW ?_ | refine qM ?_); try simp -dsimp (maxSteps := 2000000) (disch := first | omega | (simp only [qZ] <;> omega) | fail) only [push_cast, ↓qP, ↓reduceIte, Nat.reduceEqDiff, Nat.reduceAdd, Nat.reduceMul, Nat.reduceSub, Nat.reduceLeDiff, Int.reduceToNat, reduceCtorEq, f2, f3, f4, f11, f12]) | (refine qA ?_ ?_; (first | omega | (simp only [qL]; omega) | (simp only [qD] at *; omega))))
        refine Again.mk (k + 1) ⟨A', n + 1, cap', by simp [upd, f2], by simp [upd, f3], by simp [upd, f4], by simp [upd], by simp [upd], by omega, ?_, by rw [hsucc]; simp; omega, ?_, h2⟩ (by omega)
        · rw [hsucc, by8s_append, hu]; exact hown'
        · intro g hg
          rcases hat with h | h
          · exact hnew g (h ▸ hg)
          · rw [h] at hg; simp at hg; subst hg; omega
    · rw [if_neg (show ¬ (set.getD k false != nt) = true from by rw [show (set.getD k false != nt) = false from hc]; simp)] at hsucc
      repeat (first | refine qS ?_ | refine qB ?_ | refine qT rfl ?_ | refine qF rfl ?_ | ((first | refine qR rfl ?_ | refine qK ?_ | refine qE ?_ | refine qW ?_ | refine qM ?_); try simp -dsimp (maxSteps := 2000000) (disch := first | omega | (simp only [qZ] <;> omega) | fail) only [push_cast, ↓qP, ↓reduceIte, Nat.reduceEqDiff, Nat.reduceAdd, Nat.reduceMul, Nat.reduceSub, Nat.reduceLeDiff, Int.reduceToNat, reduceCtorEq, f2, f3, f4, f11, f12, c1, hcell, hc]) | (refine qA ?_ ?_; (first | omega | (simp only [qL]; omega) | (simp only [qD] at *; omega))))
      exact Again.mk (k + 1) ⟨A, n, cap, by simp [upd, f2], by simp [upd, f3], by simp [upd, f4], by simp [upd, f11], by simp [upd], by omega, by rw [hsucc]; exact hown, by rw [hsucc]; exact hn, hnew, h1⟩ (by omega)
  · have c1 : decide ((k : Int) < 256) = false := decide_eq_false (by omega)
    have hkb : bytesK set nt k = bytesOf set nt := by rw [show k = 256 by omega]; rfl
    rw [hkb] at hown hn
    have hltr := h1.r.lt
    have hrr := h1.r.rdc
    have hrz := h1.r.fz
    repeat (first | refine qS ?_ | refine qB ?_ | refine qT rfl ?_ | refine qF rfl ?_ | ((first | refine qR rfl ?_ | refine qK ?_ | refine qE ?_ | refine qW ?_ | refine qM ?_); try simp -dsimp (maxSteps := 2000000) (disch := first | omega | (simp only [qZ] <;> omega) | fail) only [push_cast, ↓qP, ↓reduceIte, Nat.reduceEqDiff, Nat.reduceAdd, Nat.reduceMul, Nat.reduceSub, Nat.reduceLeDiff, Int.reduceToNat, reduceCtorEq, f2, f3, f4, f11, f12, c1]) | (refine qA ?_ ?_; (first | omega | (simp only [qL]; omega) | (simp only [qD] at *; omega))))
    refine V_str 63 9 _ rfl se_63 ik_5 isStr_9 (bytesOf set nt) rfl hn (by8s_str hown hn) ?_
    refine Sm.out ?_
    repeat (first | refine qS ?_ | refine qB ?_ | refine qT rfl ?_ | refine qF rfl ?_ | ((first | refine qR rfl ?_ | refine qK ?_ | refine qE ?_ | refine qW ?_ | refine qM ?_); try simp -dsimp (maxSteps := 2000000) (disch := first | omega | (simp only [qZ] <;> omega) | fail) only [push_cast, ↓qP, ↓reduceIte, Nat.reduceEqDiff, Nat.reduceAdd, Nat.reduceMul, Nat.reduceSub, Nat.reduceLeDiff, Int.reduceToNat, reduceCtorEq, f2, hrr, hrz]) | (refine qA ?_ ?_; (first | omega | (simp only [qL]; omega) | (simp only [qD] at *; omega))))
    exact h1.out (t := .node opSet (bytesOf set nt) [] 0 0) (cs := [.string (B opSet), .string (B (bytesOf set nt)), .slice none 0 0, .int .i64 0, .int .i64 0]) hbr (by simp [upd, f2]) rfl (fun w' => set_is _ _ _ _)
end
end Go.Proofs.Ytddichibegppjaa

/- The program's sets of bytes: put, class, text. -/
namespace Go.Proofs.Ytddichibegppjaa
open Go Go.VC Go.RowKit

section
variable {w : World} {a g : Nat} {l : List UInt8} {i : Nat} {d : Int} {set : List Bool}

theorem put5_any (h : Blk w g 149 (bools set)) (hs : set.length = 256) (x y : UInt8) : Calls Try.prog 112 #[.pointer (some ⟨g, 0, none⟩), .int .u8 (x.toNat : Int), .int .u8 (y.toNat : Int)] w fun e w' =>
    e = .returned (.tuple #[]) ∧ Blk w' g 149 (bools (putR set x.toNat y.toNat)) ∧ Kp (fun b => b = g) w w' := by
  have hx := x.toNat_lt
  have hy := y.toNat_lt
  refine enter (n := 19) (args := [.pointer (some ⟨g, 0, none⟩), .int .u8 (x.toNat : Int), .int .u8 (y.toNat : Int)]) Try.func112 rfl rfl rfl (by simp) ?_
  repeat (first | refine qS ?_ | refine qB ?_ | refine qT rfl ?_ | refine qF rfl ?_ | ((first | refine qR rfl ?_ | refine qK ?_ | refine qE ?_ | refine qW ?_ | refine qM ?_); try simp -dsimp (maxSteps := 2000000) (disch := first | omega | (simp only [qZ] <;> omega) | fail) only [push_cast, ↓qP, ↓reduceIte, Nat.reduceEqDiff, Nat.reduceAdd, Nat.reduceMul, Nat.reduceSub, Nat.reduceLeDiff, Int.reduceToNat, reduceCtorEq]) | (refine qA ?_ ?_; (first | omega | (simp only [qL]; omega) | (simp only [qD] at *; omega))))
  refine Wp.loop (α := Nat) (fun k F W => F 0 = .pointer (some ⟨g, 0, none⟩) ∧ F 2 = .int .u8 (y.toNat : Int) ∧ F 6 = .int .i64 (k : Int) ∧ x.toNat ≤ k ∧ k ≤ 256 ∧ (x.toNat ≤ y.toNat → k ≤ y.toNat + 1) ∧ (y.toNat < x.toNat → k = x.toNat) ∧ Blk W g 149 (bools (putK set x.toNat k)) ∧ Kp (fun b => b = g) w W) (fun k => 256 - k) x.toNat
    ⟨by simp [upd, arg], by simp [upd, arg], by simp [upd], by omega, by omega, by omega, by omega, by rw [putK_zero]; exact h, Kp.refl _ _⟩ ?_
  clear h
  rintro k F W ⟨f0, f2, f6, hk1, hk2, hk3, hk4, hb, kp⟩
  have hz := hb.fz
  have hlt := hb.lt
  rcases Nat.lt_or_ge y.toNat k with h1 | h1
  · have c1 : decide ((k : Int) ≤ (y.toNat : Int)) = false := decide_eq_false (by omega)
    repeat (first | refine qS ?_ | refine qB ?_ | refine qT rfl ?_ | refine qF rfl ?_ | ((first | refine qR rfl ?_ | refine qK ?_ | refine qE ?_ | refine qW ?_ | refine qM ?_); try simp -dsimp (maxSteps := 2000000) (disch := first | omega | (simp only [qZ] <;> omega) | fail) only [push_cast, ↓qP, ↓reduceIte, Nat.reduceEqDiff, Nat.reduceAdd, Nat.reduceMul, Nat.reduceSub, Nat.reduceLeDiff, Int.reduceToNat, reduceCtorEq, f0, f2, f6, c1]) | (refine qA ?_ ?_; (first | omega | (simp only [qL]; omega) | (simp only [qD] at *; omega))))
    refine Ret.mk ⟨rfl, ?_, kp⟩
    have : putK set x.toNat k = putR set x.toNat y.toNat := by
      rcases Nat.lt_or_ge y.toNat x.toNat with h2 | h2
      · rw [hk4 h2, putK_zero]
        refine List.ext_getElem? fun j => ?_
        unfold putR
        rw [List.getElem?_map, List.getElem?_zipIdx]
        cases set[j]? with
        | none => rfl
        | some b =>
          have : (decide (x.toNat ≤ 0 + j) && decide (0 + j ≤ y.toNat)) = false := by
            rcases Nat.lt_or_ge j x.toNat with h3 | h3
            · rw [decide_eq_false (by omega : ¬ x.toNat ≤ 0 + j)]; rfl
            · rw [decide_eq_false (by omega : ¬ 0 + j ≤ y.toNat), Bool.and_false]
          simp only [Option.map_some, this, Bool.or_false]
      · rw [show k = y.toNat + 1 by omega, putK_all]
    rw [← this]; exact hb
  · have c1 : decide ((k : Int) ≤ (y.toNat : Int)) = true := decide_eq_true (by omega)
    have hcell : rdc W g k = some (.bool ((putK set x.toNat k).getD k false)) := by rw [hb.rdc]; exact bools_get _ _ (by rw [putK_len, hs]; omega)
    have hset := hb.set k (.bool true)
    rw [bools_set, ← putK_succ _ _ _ (by omega) (by omega)] at hset
    repeat (first | refine qS ?_ | refine qB ?_ | refine qT rfl ?_ | refine qF rfl ?_ | ((first | refine qR rfl ?_ | refine qK ?_ | refine qE ?_ | refine qW ?_ | refine qM ?_); try simp -dsimp (maxSteps := 2000000) (disch := first | omega | (simp only [qZ] <;> omega) | fail) only [push_cast, ↓qP, ↓reduceIte, Nat.reduceEqDiff, Nat.reduceAdd, Nat.reduceMul, Nat.reduceSub, Nat.reduceLeDiff, Int.reduceToNat, reduceCtorEq, f0, f2, f6, c1, hcell, hz]) | (refine qA ?_ ?_; (first | omega | (simp only [qL]; omega) | (simp only [qD] at *; omega))))
    exact Again.mk (k + 1) ⟨by simp [upd, f0], by simp [upd, f2], by simp [upd], by omega, by omega, by omega, by omega, hset, kp.setCell (fun _ => rfl) _⟩ (by omega)

/-- Ranges, one behind the other. -/
def putE : List UInt8 → List Bool → List Bool
  | a :: b :: t, set => putE t (putR set a.toNat b.toNat)
  | _, set => set
theorem putE_len : ∀ (E : List UInt8) (set : List Bool), (putE E set).length = set.length
  | [], set => rfl
  | [a], set => rfl
  | a :: b :: t, set => by rw [putE, putE_len t, putR_len]
def clE (n : List UInt8) : List UInt8 :=
  if n == nAlpha then [65, 90, 97, 122] else if n == nDigit then [48, 57] else if n == nAlnum then [48, 57, 65, 90, 97, 122] else if n == nUpper then [65, 90] else if n == nLower then [97, 122]
  else if n == nSpace then [9, 13, 32, 32] else if n == nBlank then [9, 9, 32, 32] else if n == nPunct then [33, 47, 58, 64, 91, 96, 123, 126] else if n == nPrint then [32, 126] else if n == nGraph then [33, 126]
  else if n == nCntrl then [0, 31, 127, 127] else if n == nXdigit then [48, 57, 65, 70, 97, 102] else []
def inE : List UInt8 → Nat → Bool
  | a :: b :: t, k => decide (a.toNat ≤ k) && decide (k ≤ b.toNat) || inE t k
  | _, _ => false
theorem putE_get : ∀ (E : List UInt8) (set : List Bool) (j : Nat), (putE E set)[j]? = set[j]?.map fun b => b || inE E j
  | [], set, j => by simp [putE, inE]
  | [a], set, j => by simp [putE, inE]
  | a :: b :: t, set, j => by
    rw [putE, putE_get t]
    unfold putR
    rw [List.getElem?_map, List.getElem?_zipIdx]
    cases set[j]? with
    | none => rfl
    | some x => simp [inE, Bool.or_assoc]
theorem inE_ok : ∀ n ∈ [nAlpha, nDigit, nAlnum, nUpper, nLower, nSpace, nBlank, nPunct, nPrint, nGraph, nCntrl, nXdigit], ∀ k : Fin 256, (in3 n (k.val : Int)).1 = inE (clE n) k.val := by decide +kernel
theorem cls (n : List UInt8) : n ∈ [nAlpha, nDigit, nAlnum, nUpper, nLower, nSpace, nBlank, nPunct, nPrint, nGraph, nCntrl, nXdigit] ∨ ((∀ c, in3 n c = (false, false)) ∧ clE n = []) := by
  by_cases h : n ∈ [nAlpha, nDigit, nAlnum, nUpper, nLower, nSpace, nBlank, nPunct, nPrint, nGraph, nCntrl, nXdigit]
  · exact .inl h
  · right
    simp only [List.mem_cons, List.not_mem_nil, or_false, not_or] at h
    obtain ⟨h1, h2, h3, h4, h5, h6, h7, h8, h9, h10, h11, h12⟩ := h
    constructor
    · intro c; unfold in3; simp only [beq_iff_eq, h1, h2, h3, h4, h5, h6, h7, h8, h9, h10, h11, h12, if_false]
    · unfold clE; simp only [beq_iff_eq, h1, h2, h3, h4, h5, h6, h7, h8, h9, h10, h11, h12, if_false]
theorem cls_ok : ∀ n ∈ [nAlpha, nDigit, nAlnum, nUpper, nLower, nSpace, nBlank, nPunct, nPrint, nGraph, nCntrl, nXdigit], (in3 n 0).2 = true ∧ (clE n).length % 2 = 0 ∧ (clE n).length ≤ 8 ∧ clE n ≠ [] := by decide +kernel
theorem names_in {n : List UInt8} (h : (in3 n 0).2 = true) : n ∈ [nAlpha, nDigit, nAlnum, nUpper, nLower, nSpace, nBlank, nPunct, nPrint, nGraph, nCntrl, nXdigit] := by
  rcases cls n with h1 | ⟨h1, _⟩
  · exact h1
  · rw [h1] at h; cases h
theorem clPut_E {n : List UInt8} (h : (in3 n 0).2 = true) (hs : set.length = 256) : clPut n set = putE (clE n) set := by
  refine List.ext_getElem? fun j => ?_
  rw [putE_get]
  unfold clPut
  rw [List.getElem?_map, List.getElem?_zipIdx]
  rcases Nat.lt_or_ge j 256 with hj | hj
  · rw [List.getElem?_eq_getElem (by omega)]
    simp only [Option.map_some, Nat.zero_add]
    rw [inE_ok n (names_in h) ⟨j, hj⟩]
  · rw [List.getElem?_eq_none (by omega)]; rfl
theorem clE_bad {n : List UInt8} (h : (in3 n 0).2 = false) : clE n = [] := by
  rcases cls n with h1 | ⟨_, h1⟩
  · rw [(cls_ok n h1).1] at h; cases h
  · exact h1
theorem clE_even (n : List UInt8) : ∃ m, (clE n).length = 2 * m ∧ m ≤ 4 := by
  rcases cls n with h1 | ⟨_, h1⟩
  · have := cls_ok n h1
    exact ⟨(clE n).length / 2, by omega, by omega⟩
  · rw [h1]; exact ⟨0, rfl, by omega⟩
theorem clE_ne (n : List UInt8) : (clE n != []) = (in3 n 0).2 := by
  rcases cls n with h1 | ⟨h2, h1⟩
  · have := cls_ok n h1
    rw [this.1]; simpa using this.2.2.2
  · rw [h1, h2]; rfl
theorem putE_take : ∀ (m : Nat) (E : List UInt8) (set : List Bool), 2 * m + 2 ≤ E.length → putE (E.take (2 * (m + 1))) set = putR (putE (E.take (2 * m)) set) (byteAt E (2 * m)).toNat (byteAt E (2 * m + 1)).toNat
  | 0, a :: b :: t, set, _ => by simp [putE, byteAt]
  | m + 1, a :: b :: t, set, h => by
    have := putE_take m t (putR set a.toNat b.toNat) (by simp at h; omega)
    rw [show 2 * (m + 1 + 1) = 2 * (m + 1) + 1 + 1 by omega, show 2 * (m + 1) = 2 * m + 1 + 1 by omega]
    simp only [List.take_succ_cons, putE]
    rw [show 2 * m + 1 + 1 = 2 * (m + 1) by omega, this]
    simp [byteAt, show 2 * (m + 1) = 2 * m + 1 + 1 by omega]
  | m, [], set, h => by simp at h
  | m, [a], set, h => by simp at h

theorem class_any (h : Blk w g 149 (bools set)) (hs : set.length = 256) (n : List UInt8) : Calls Try.prog 115 #[.pointer (some ⟨g, 0, none⟩), .string (B n)] w fun e w' =>
    e = .returned (.bool (in3 n 0).2) ∧ Blk w' g 149 (bools (if (in3 n 0).2 then clPut n set else set)) ∧ Kp (fun b => b = g) w w' := by
  have hfin : putE (clE n) set = if (in3 n 0).2 then clPut n set else set := by
    cases hc : (in3 n 0).2 with
    | true => rw [if_pos rfl, clPut_E hc hs]
    | false => rw [clE_bad hc]; rfl
  rw [← hfin, ← clE_ne]
  obtain ⟨m, hm, hm4⟩ := clE_even n
  refine enter (n := 49) (args := [.pointer (some ⟨g, 0, none⟩), .string (B n)]) Try.func115 rfl rfl rfl (by simp) ?_
  refine Sm.out ?_
  repeat (first | ((fail_if_success (first | refine qY (n := 2) ?_ | refine qV (n := 2) ?_)); refine qS ?_) | refine qB ?_ | refine qT rfl ?_ | refine qF rfl ?_ | ((first | refine qR rfl ?_ | refine qK ?_ | refine qE ?_ | refine qW ?_ | refine qM ?_); try simp -dsimp (maxSteps := 2000000) (disch := first | omega | (simp only [qZ] <;> omega) | fail) only [push_cast, ↓qP, ↓reduceIte, Nat.reduceEqDiff, Nat.reduceAdd, Nat.reduceMul, Nat.reduceSub, Nat.reduceLeDiff, Int.reduceToNat, reduceCtorEq]) | (refine qA ?_ ?_; (first | omega | (simp only [qL]; omega) | (simp only [qD] at *; omega))))
  refine Wp.cut (fun F W => F 0 = .pointer (some ⟨g, 0, none⟩) ∧ F 5 = .string (B (clE n)) ∧ W = w) ?_ ?_
  · cases h0 : n == nAlpha with
    | true =>
      have g0 : (n == [97, 108, 112, 104, 97]) = true := h0
      have hc : clE n = [65, 90, 97, 122] := by unfold clE; simp only [h0, Bool.false_eq_true, if_false, if_true]
      repeat (first | refine qS ?_ | refine qB ?_ | refine qT rfl ?_ | refine qF rfl ?_ | ((first | refine qR rfl ?_ | refine qK ?_ | refine qE ?_ | refine qW ?_ | refine qM ?_); try simp -dsimp (maxSteps := 2000000) (disch := first | omega | (simp only [qZ] <;> omega) | fail) only [push_cast, ↓qP, ↓reduceIte, Nat.reduceEqDiff, Nat.reduceAdd, Nat.reduceMul, Nat.reduceSub, Nat.reduceLeDiff, Int.reduceToNat, reduceCtorEq, g0]) | (refine qA ?_ ?_; (first | omega | (simp only [qL]; omega) | (simp only [qD] at *; omega))))
      exact Mid.mk ⟨by simp [upd, arg], by rw [hc]; rfl, rfl⟩
    | false =>
    have g0 : (n == [97, 108, 112, 104, 97]) = false := h0
    cases h1 : n == nDigit with
    | true =>
      have g1 : (n == [100, 105, 103, 105, 116]) = true := h1
      have hc : clE n = [48, 57] := by unfold clE; simp only [h0, h1, Bool.false_eq_true, if_false, if_true]
      repeat (first | refine qS ?_ | refine qB ?_ | refine qT rfl ?_ | refine qF rfl ?_ | ((first | refine qR rfl ?_ | refine qK ?_ | refine qE ?_ | refine qW ?_ | refine qM ?_); try simp -dsimp (maxSteps := 2000000) (disch := first | omega | (simp only [qZ] <;> omega) | fail) only [push_cast, ↓qP, ↓reduceIte, Nat.reduceEqDiff, Nat.reduceAdd, Nat.reduceMul, Nat.reduceSub, Nat.reduceLeDiff, Int.reduceToNat, reduceCtorEq, g0, g1]) | (refine qA ?_ ?_; (first | omega | (simp only [qL]; omega) | (simp only [qD] at *; omega))))
      exact Mid.mk ⟨by simp [upd, arg], by rw [hc]; rfl, rfl⟩
    | false =>
    have g1 : (n == [100, 105, 103, 105, 116]) = false := h1
    cases h2 : n == nAlnum with
    | true =>
      have g2 : (n == [97, 108, 110, 117, 109]) = true := h2
      have hc : clE n = [48, 57, 65, 90, 97, 122] := by unfold clE; simp only [h0, h1, h2, Bool.false_eq_true, if_false, if_true]
      repeat (first | refine qS ?_ | refine qB ?_ | refine qT rfl ?_ | refine qF rfl ?_ | ((first | refine qR rfl ?_ | refine qK ?_ | refine qE ?_ | refine qW ?_ | refine qM ?_); try simp -dsimp (maxSteps := 2000000) (disch := first | omega | (simp only [qZ] <;> omega) | fail) only [push_cast, ↓qP, ↓reduceIte, Nat.reduceEqDiff, Nat.reduceAdd, Nat.reduceMul, Nat.reduceSub, Nat.reduceLeDiff, Int.reduceToNat, reduceCtorEq, g0, g1, g2]) | (refine qA ?_ ?_; (first | omega | (simp only [qL]; omega) | (simp only [qD] at *; omega))))
      exact Mid.mk ⟨by simp [upd, arg], by rw [hc]; rfl, rfl⟩
    | false =>
    have g2 : (n == [97, 108, 110, 117, 109]) = false := h2
    cases h3 : n == nUpper with
    | true =>
      have g3 : (n == [117, 112, 112, 101, 114]) = true := h3
      have hc : clE n = [65, 90] := by unfold clE; simp only [h0, h1, h2, h3, Bool.false_eq_true, if_false, if_true]
      repeat (first | refine qS ?_ | refine qB ?_ | refine qT rfl ?_ | refine qF rfl ?_ | ((first | refine qR rfl ?_ | refine qK ?_ | refine qE ?_ | refine qW ?_ | refine qM ?_); try simp -dsimp (maxSteps := 2000000) (disch := first | omega | (simp only [qZ] <;> omega) | fail) only [push_cast, ↓qP, ↓reduceIte, Nat.reduceEqDiff, Nat.reduceAdd, Nat.reduceMul, Nat.reduceSub, Nat.reduceLeDiff, Int.reduceToNat, reduceCtorEq, g0, g1, g2, g3]) | (refine qA ?_ ?_; (first | omega | (simp only [qL]; omega) | (simp only [qD] at *; omega))))
      exact Mid.mk ⟨by simp [upd, arg], by rw [hc]; rfl, rfl⟩
    | false =>
    have g3 : (n == [117, 112, 112, 101, 114]) = false := h3
    cases h4 : n == nLower with
    | true =>
      have g4 : (n == [108, 111, 119, 101, 114]) = true := h4
      have hc : clE n = [97, 122] := by unfold clE; simp only [h0, h1, h2, h3, h4, Bool.false_eq_true, if_false, if_true]
      repeat (first | refine qS ?_ | refine qB ?_ | refine qT rfl ?_ | refine qF rfl ?_ | ((first | refine qR rfl ?_ | refine qK ?_ | refine qE ?_ | refine qW ?_ | refine qM ?_); try simp -dsimp (maxSteps := 2000000) (disch := first | omega | (simp only [qZ] <;> omega) | fail) only [push_cast, ↓qP, ↓reduceIte, Nat.reduceEqDiff, Nat.reduceAdd, Nat.reduceMul, Nat.reduceSub, Nat.reduceLeDiff, Int.reduceToNat, reduceCtorEq, g0, g1, g2, g3, g4]) | (refine qA ?_ ?_; (first | omega | (simp only [qL]; omega) | (simp only [qD] at *; omega))))
      exact Mid.mk ⟨by simp [upd, arg], by rw [hc]; rfl, rfl⟩
    | false =>
    have g4 : (n == [108, 111, 119, 101, 114]) = false := h4
    cases h5 : n == nSpace with
    | true =>
      have g5 : (n == [115, 112, 97, 99, 101]) = true := h5
      have hc : clE n = [9, 13, 32, 32] := by unfold clE; simp only [h0, h1, h2, h3, h4, h5, Bool.false_eq_true, if_false, if_true]
      repeat (first | refine qS ?_ | refine qB ?_ | refine qT rfl ?_ | refine qF rfl ?_ | ((first | refine qR rfl ?_ | refine qK ?_ | refine qE ?_ | refine qW ?_ | refine qM ?_); try simp -dsimp (maxSteps := 2000000) (disch := first | omega | (simp only [qZ] <;> omega) | fail) only [push_cast, ↓qP, ↓reduceIte, Nat.reduceEqDiff, Nat.reduceAdd, Nat.reduceMul, Nat.reduceSub, Nat.reduceLeDiff, Int.reduceToNat, reduceCtorEq, g0, g1, g2, g3, g4, g5]) | (refine qA ?_ ?_; (first | omega | (simp only [qL]; omega) | (simp only [qD] at *; omega))))
      exact Mid.mk ⟨by simp [upd, arg], by rw [hc]; rfl, rfl⟩
    | false =>
    have g5 : (n == [115, 112, 97, 99, 101]) = false := h5
    cases h6 : n == nBlank with
    | true =>
      have g6 : (n == [98, 108, 97, 110, 107]) = true := h6
      have hc : clE n = [9, 9, 32, 32] := by unfold clE; simp only [h0, h1, h2, h3, h4, h5, h6, Bool.false_eq_true, if_false, if_true]
      repeat (first | refine qS ?_ | refine qB ?_ | refine qT rfl ?_ | refine qF rfl ?_ | ((first | refine qR rfl ?_ | refine qK ?_ | refine qE ?_ | refine qW ?_ | refine qM ?_); try simp -dsimp (maxSteps := 2000000) (disch := first | omega | (simp only [qZ] <;> omega) | fail) only [push_cast, ↓qP, ↓reduceIte, Nat.reduceEqDiff, Nat.reduceAdd, Nat.reduceMul, Nat.reduceSub, Nat.reduceLeDiff, Int.reduceToNat, reduceCtorEq, g0, g1, g2, g3, g4, g5, g6]) | (refine qA ?_ ?_; (first | omega | (simp only [qL]; omega) | (simp only [qD] at *; omega))))
      exact Mid.mk ⟨by simp [upd, arg], by rw [hc]; rfl, rfl⟩
    | false =>
    have g6 : (n == [98, 108, 97, 110, 107]) = false := h6
    cases h7 : n == nPunct with
    | true =>
      have g7 : (n == [112, 117, 110, 99, 116]) = true := h7
      have hc : clE n = [33, 47, 58, 64, 91, 96, 123, 126] := by unfold clE; simp only [h0, h1, h2, h3, h4, h5, h6, h7, Bool.false_eq_true, if_false, if_true]
      repeat (first | refine qS ?_ | refine qB ?_ | refine qT rfl ?_ | refine qF rfl ?_ | ((first | refine qR rfl ?_ | refine qK ?_ | refine qE ?_ | refine qW ?_ | refine qM ?_); try simp -dsimp (maxSteps := 2000000) (disch := first | omega | (simp only [qZ] <;> omega) | fail) only [push_cast, ↓qP, ↓reduceIte, Nat.reduceEqDiff, Nat.reduceAdd, Nat.reduceMul, Nat.reduceSub, Nat.reduceLeDiff, Int.reduceToNat, reduceCtorEq, g0, g1, g2, g3, g4, g5, g6, g7]) | (refine qA ?_ ?_; (first | omega | (simp only [qL]; omega) | (simp only [qD] at *; omega))))
      exact Mid.mk ⟨by simp [upd, arg], by rw [hc]; rfl, rfl⟩
    | false =>
    have g7 : (n == [112, 117, 110, 99, 116]) = false := h7
    cases h8 : n == nPrint with
    | true =>
      have g8 : (n == [112, 114, 105, 110, 116]) = true := h8
      have hc : clE n = [32, 126] := by unfold clE; simp only [h0, h1, h2, h3, h4, h5, h6, h7, h8, Bool.false_eq_true, if_false, if_true]
      repeat (first | refine qS ?_ | refine qB ?_ | refine qT rfl ?_ | refine qF rfl ?_ | ((first | refine qR rfl ?_ | refine qK ?_ | refine qE ?_ | refine qW ?_ | refine qM ?_); try simp -dsimp (maxSteps := 2000000) (disch := first | omega | (simp only [qZ] <;> omega) | fail) only [push_cast, ↓qP, ↓reduceIte, Nat.reduceEqDiff, Nat.reduceAdd, Nat.reduceMul, Nat.reduceSub, Nat.reduceLeDiff, Int.reduceToNat, reduceCtorEq, g0, g1, g2, g3, g4, g5, g6, g7, g8]) | (refine qA ?_ ?_; (first | omega | (simp only [qL]; omega) | (simp only [qD] at *; omega))))
      exact Mid.mk ⟨by simp [upd, arg], by rw [hc]; rfl, rfl⟩
    | false =>
    have g8 : (n == [112, 114, 105, 110, 116]) = false := h8
    cases h9 : n == nGraph with
    | true =>
      have g9 : (n == [103, 114, 97, 112, 104]) = true := h9
      have hc : clE n = [33, 126] := by unfold clE; simp only [h0, h1, h2, h3, h4, h5, h6, h7, h8, h9, Bool.false_eq_true, if_false, if_true]
      repeat (first | refine qS ?_ | refine qB ?_ | refine qT rfl ?_ | refine qF rfl ?_ | ((first | refine qR rfl ?_ | refine qK ?_ | refine qE ?_ | refine qW ?_ | refine qM ?_); try simp -dsimp (maxSteps := 2000000) (disch := first | omega | (simp only [qZ] <;> omega) | fail) only [push_cast, ↓qP, ↓reduceIte, Nat.reduceEqDiff, Nat.reduceAdd, Nat.reduceMul, Nat.reduceSub, Nat.reduceLeDiff, Int.reduceToNat, reduceCtorEq, g0, g1, g2, g3, g4, g5, g6, g7, g8, g9]) | (refine qA ?_ ?_; (first | omega | (simp only [qL]; omega) | (simp only [qD] at *; omega))))
      exact Mid.mk ⟨by simp [upd, arg], by rw [hc]; rfl, rfl⟩
    | false =>
    have g9 : (n == [103, 114, 97, 112, 104]) = false := h9
    cases h10 : n == nCntrl with
    | true =>
      have g10 : (n == [99, 110, 116, 114, 108]) = true := h10
      have hc : clE n = [0, 31, 127, 127] := by unfold clE; simp only [h0, h1, h2, h3, h4, h5, h6, h7, h8, h9, h10, Bool.false_eq_true, if_false, if_true]
      repeat (first | refine qS ?_ | refine qB ?_ | refine qT rfl ?_ | refine qF rfl ?_ | ((first | refine qR rfl ?_ | refine qK ?_ | refine qE ?_ | refine qW ?_ | refine qM ?_); try simp -dsimp (maxSteps := 2000000) (disch := first | omega | (simp only [qZ] <;> omega) | fail) only [push_cast, ↓qP, ↓reduceIte, Nat.reduceEqDiff, Nat.reduceAdd, Nat.reduceMul, Nat.reduceSub, Nat.reduceLeDiff, Int.reduceToNat, reduceCtorEq, g0, g1, g2, g3, g4, g5, g6, g7, g8, g9, g10]) | (refine qA ?_ ?_; (first | omega | (simp only [qL]; omega) | (simp only [qD] at *; omega))))
      exact Mid.mk ⟨by simp [upd, arg], by rw [hc]; rfl, rfl⟩
    | false =>
    have g10 : (n == [99, 110, 116, 114, 108]) = false := h10
    cases h11 : n == nXdigit with
    | true =>
      have g11 : (n == [120, 100, 105, 103, 105, 116]) = true := h11
      have hc : clE n = [48, 57, 65, 70, 97, 102] := by unfold clE; simp only [h0, h1, h2, h3, h4, h5, h6, h7, h8, h9, h10, h11, Bool.false_eq_true, if_false, if_true]
      repeat (first | refine qS ?_ | refine qB ?_ | refine qT rfl ?_ | refine qF rfl ?_ | ((first | refine qR rfl ?_ | refine qK ?_ | refine qE ?_ | refine qW ?_ | refine qM ?_); try simp -dsimp (maxSteps := 2000000) (disch := first | omega | (simp only [qZ] <;> omega) | fail) only [push_cast, ↓qP, ↓reduceIte, Nat.reduceEqDiff, Nat.reduceAdd, Nat.reduceMul, Nat.reduceSub, Nat.reduceLeDiff, Int.reduceToNat, reduceCtorEq, g0, g1, g2, g3, g4, g5, g6, g7, g8, g9, g10, g11]) | (refine qA ?_ ?_; (first | omega | (simp only [qL]; omega) | (simp only [qD] at *; omega))))
      exact Mid.mk ⟨by simp [upd, arg], by rw [hc]; rfl, rfl⟩
    | false =>
    have g11 : (n == [120, 100, 105, 103, 105, 116]) = false := h11
    have hc : clE n = [] := by unfold clE; simp only [h0, h1, h2, h3, h4, h5, h6, h7, h8, h9, h10, h11, Bool.false_eq_true, if_false]
    repeat (first | refine qS ?_ | refine qB ?_ | refine qT rfl ?_ | refine qF rfl ?_ | ((first | refine qR rfl ?_ | refine qK ?_ | refine qE ?_ | refine qW ?_ | refine qM ?_); try simp -dsimp (maxSteps := 2000000) (disch := first | omega | (simp only [qZ] <;> omega) | fail) only [push_cast, ↓qP, ↓reduceIte, Nat.reduceEqDiff, Nat.reduceAdd, Nat.reduceMul, Nat.reduceSub, Nat.reduceLeDiff, Int.reduceToNat, reduceCtorEq, g0, g1, g2, g3, g4, g5, g6, g7, g8, g9, g10, g11]) | (refine qA ?_ ?_; (first | omega | (simp only [qL]; omega) | (simp only [qD] at *; omega))))
    exact Mid.mk ⟨by simp [upd, arg], by rw [hc]; rfl, rfl⟩
  rintro F W ⟨f0, f5, rfl⟩
  generalize clE n = E at *
  refine Sm.out ?_
  repeat (first | ((fail_if_success (first | refine qY (n := 27) ?_ | refine qV (n := 27) ?_)); refine qS ?_) | refine qB ?_ | refine qT rfl ?_ | refine qF rfl ?_ | ((first | refine qR rfl ?_ | refine qK ?_ | refine qE ?_ | refine qW ?_ | refine qM ?_); try simp -dsimp (maxSteps := 2000000) (disch := first | omega | (simp only [qZ] <;> omega) | fail) only [push_cast, ↓qP, ↓reduceIte, Nat.reduceEqDiff, Nat.reduceAdd, Nat.reduceMul, Nat.reduceSub, Nat.reduceLeDiff, Int.reduceToNat, reduceCtorEq, f0]) | (refine qA ?_ ?_; (first | omega | (simp only [qL]; omega) | (simp only [qD] at *; omega))))
  refine Wp.cut (fun F W' => F 5 = .string (B E) ∧ Blk W' g 149 (bools (putE E set)) ∧ Kp (fun b => b = g) W W') ?_ ?_
  · repeat (first | refine qS ?_ | refine qB ?_ | refine qT rfl ?_ | refine qF rfl ?_ | ((first | refine qR rfl ?_ | refine qK ?_ | refine qE ?_ | refine qW ?_ | refine qM ?_); try simp -dsimp (maxSteps := 2000000) (disch := first | omega | (simp only [qZ] <;> omega) | fail) only [push_cast, ↓qP, ↓reduceIte, Nat.reduceEqDiff, Nat.reduceAdd, Nat.reduceMul, Nat.reduceSub, Nat.reduceLeDiff, Int.reduceToNat, reduceCtorEq]) | (refine qA ?_ ?_; (first | omega | (simp only [qL]; omega) | (simp only [qD] at *; omega))))
    refine Wp.loop (α := Nat) (fun k F W' => F 0 = .pointer (some ⟨g, 0, none⟩) ∧ F 5 = .string (B E) ∧ F 6 = .int .i64 ((2 * k : Nat) : Int) ∧ k ≤ m ∧ Blk W' g 149 (bools (putE (E.take (2 * k)) set)) ∧ Kp (fun b => b = g) W W') (fun k => m - k) 0
      ⟨by simp [upd, f0], by simp [upd, f5], by simp [upd], by omega, by simpa [putE] using h, Kp.refl _ _⟩ ?_
    clear f0 f5 h
    rintro k F W' ⟨f0, f5, f6, hk, hb, kp⟩
    rcases Nat.lt_or_ge k m with h1 | h1
    · have c1 : decide (((2 * k : Nat) : Int) < (E.length : Int)) = true := decide_eq_true (by omega)
      have i1 : (((2 * k : Nat) : Int)).toNat = 2 * k := by omega
      have i2 : (((2 * k : Nat) : Int) + 1).toNat = 2 * k + 1 := by omega
      have i3 : ((2 * k : Nat) : Int) + 2 = ((2 * (k + 1) : Nat) : Int) := by omega
      generalize hj : ((2 * k : Nat) : Int) = j at *
      repeat (first | refine qS ?_ | refine qB ?_ | refine qT rfl ?_ | refine qF rfl ?_ | ((first | refine qR rfl ?_ | refine qK ?_ | refine qE ?_ | refine qW ?_ | refine qM ?_); try simp -dsimp (maxSteps := 2000000) (disch := first | omega | (simp only [qZ] <;> omega) | fail) only [push_cast, ↓qP, ↓reduceIte, Nat.reduceEqDiff, Nat.reduceAdd, Nat.reduceMul, Nat.reduceSub, Nat.reduceLeDiff, Int.reduceToNat, reduceCtorEq, f0, f5, f6, c1]) | (refine qA ?_ ?_; (first | omega | (simp only [qL]; omega) | (simp only [qD] at *; omega))))
      refine Wp.draw [0, 0, 0, 6, 0, 0, 32, 112, 255] [8] (.op 0 false false [] <| .op 1 false false [] <| .op 2 false false [] <| .op 3 false false [] <| .op 4 false false [] <| .op 5 false false [] <| .op 6 false false [] <| .op 7 false false [] <| .op 8 true false [] <| .nil) mixed (by kernel_rfl) ?_
      simp -dsimp (maxSteps := 2000000) (disch := first | omega | (simp only [qZ] <;> omega) | fail) only [push_cast, ↓qP, ↓reduceIte, Nat.reduceEqDiff, Nat.reduceAdd, Nat.reduceMul, Nat.reduceSub, Nat.reduceLeDiff, Int.reduceToNat, reduceCtorEq, f0, f5, f6, i1, i2]
      refine ⟨by omega, by omega, ?_⟩
      refine CallV.of isCall_112 (put5_any (hb.drew) (by rw [putE_len]; exact hs) _ _) ?_
      rintro _ w3 ⟨rfl, hb3, k3⟩
      rw [← putE_take k E set (by omega)] at hb3
      refine Sm.out ?_
      repeat (first | refine qS ?_ | refine qB ?_ | refine qT rfl ?_ | refine qF rfl ?_ | ((first | refine qR rfl ?_ | refine qK ?_ | refine qE ?_ | refine qW ?_ | refine qM ?_); try simp -dsimp (maxSteps := 2000000) (disch := first | omega | (simp only [qZ] <;> omega) | fail) only [push_cast, ↓qP, ↓reduceIte, Nat.reduceEqDiff, Nat.reduceAdd, Nat.reduceMul, Nat.reduceSub, Nat.reduceLeDiff, Int.reduceToNat, reduceCtorEq, f0, f5, f6, i3]) | (refine qA ?_ ?_; (first | omega | (simp only [qL]; omega) | (simp only [qD] at *; omega))))
      exact Again.mk (k + 1) ⟨by simp [upd, f0], by simp [upd, f5], by simp [upd], by omega, hb3, kp.trans (Kp.drew (Kp.refl _ _) |>.trans k3)⟩ (by omega)
    · have c1 : decide (((2 * k : Nat) : Int) < (E.length : Int)) = false := decide_eq_false (by omega)
      generalize hj : ((2 * k : Nat) : Int) = j at *
      rw [List.take_of_length_le (by omega)] at hb
      repeat (first | refine qS ?_ | refine qB ?_ | refine qT rfl ?_ | refine qF rfl ?_ | ((first | refine qR rfl ?_ | refine qK ?_ | refine qE ?_ | refine qW ?_ | refine qM ?_); try simp -dsimp (maxSteps := 2000000) (disch := first | omega | (simp only [qZ] <;> omega) | fail) only [push_cast, ↓qP, ↓reduceIte, Nat.reduceEqDiff, Nat.reduceAdd, Nat.reduceMul, Nat.reduceSub, Nat.reduceLeDiff, Int.reduceToNat, reduceCtorEq, f0, f5, f6, c1]) | (refine qA ?_ ?_; (first | omega | (simp only [qL]; omega) | (simp only [qD] at *; omega))))
      exact Mid.mk ⟨by simp [upd, f5], hb, kp⟩
  clear f0 f5
  rintro F W' ⟨f5, hb, kp⟩
  repeat (first | refine qS ?_ | refine qB ?_ | refine qT rfl ?_ | refine qF rfl ?_ | ((first | refine qR rfl ?_ | refine qK ?_ | refine qE ?_ | refine qW ?_ | refine qM ?_); try simp -dsimp (maxSteps := 2000000) (disch := first | omega | (simp only [qZ] <;> omega) | fail) only [push_cast, ↓qP, ↓reduceIte, Nat.reduceEqDiff, Nat.reduceAdd, Nat.reduceMul, Nat.reduceSub, Nat.reduceLeDiff, Int.reduceToNat, reduceCtorEq, f5]) | (refine qA ?_ ?_; (first | omega | (simp only [qL]; omega) | (simp only [qD] at *; omega))))
  exact Ret.mk ⟨rfl, hb, kp⟩

theorem text_any (h : Blk w g 149 (bools set)) (hs : set.length = 256) (b : Bool) : Calls Try.prog 105 #[.pointer (some ⟨g, 0, none⟩), .bool b] w fun e w' =>
    e = .returned (.string (B (bytesOf set (!b)))) ∧ Kp (fun _ => False) w w' := by
  refine enter (n := 26) (args := [.pointer (some ⟨g, 0, none⟩), .bool b]) Try.func105 rfl rfl rfl (by simp) ?_
  have hlt := h.lt
  repeat (first | refine qS ?_ | refine qB ?_ | refine qT rfl ?_ | refine qF rfl ?_ | ((first | refine qR rfl ?_ | refine qK ?_ | refine qE ?_ | refine qW ?_ | refine qM ?_); try simp -dsimp (maxSteps := 2000000) (disch := first | omega | (simp only [qZ] <;> omega) | fail) only [push_cast, ↓qP, ↓reduceIte, Nat.reduceEqDiff, Nat.reduceAdd, Nat.reduceMul, Nat.reduceSub, Nat.reduceLeDiff, Int.reduceToNat, reduceCtorEq]) | (refine qA ?_ ?_; (first | omega | (simp only [qL]; omega) | (simp only [qD] at *; omega))))
  refine Wp.loop (α := Nat) (fun k F W => ∃ A n cap, F 1 = .bool b ∧ F 5 = .slice A n cap ∧ F 8 = .pointer (some ⟨g, 0, none⟩) ∧ F 9 = .int .i64 (k : Int) ∧ k ≤ 256 ∧ Own W 5 1 A n cap (by8s (bytesK set (!b) k)) ∧ n = (bytesK set (!b) k).length ∧ (∀ q, bk A = some q → w.heap.size ≤ q) ∧ Kp (fun _ => False) w W) (fun k => 256 - k) 0
    ⟨none, 0, 0, by simp [upd, arg], by simp [upd], by simp [upd, arg], by simp [upd], by omega, Own.nil _ _ _, rfl, by simp [bk], Kp.refl _ _⟩ ?_
  rintro k F W ⟨A, n, cap, f1, f5, f8, f9, hk, hown, hn, hnew, kp⟩
  have hb := kp.Blk h id
  have hltW := hb.lt
  by_cases hlt256 : k < 256
  · have c1 : decide ((k : Int) < 256) = true := decide_eq_true (by omega)
    have hcell : rdc W g k = some (.bool (set.getD k false)) := by rw [hb.rdc]; exact bools_get _ _ (by rw [hs]; omega)
    have hsucc := bytesK_succ set (!b) k
    have hnl := bytesK_len set (!b) k
    repeat (first | refine qS ?_ | refine qB ?_ | refine qT rfl ?_ | refine qF rfl ?_ | ((first | refine qR rfl ?_ | refine qK ?_ | refine qE ?_ | refine qW ?_ | refine qM ?_); try simp -dsimp (maxSteps := 2000000) (disch := first | omega | (simp only [qZ] <;> omega) | fail) only [push_cast, ↓qP, ↓reduceIte, Nat.reduceEqDiff, Nat.reduceAdd, Nat.reduceMul, Nat.reduceSub, Nat.reduceLeDiff, Int.reduceToNat, reduceCtorEq, f8, f9, c1]) | (refine qA ?_ ?_; (first | omega | (simp only [qL]; omega) | (simp only [qD] at *; omega))))
    refine Wp.draw [0, 0, 2, 6, 1, 31] [] (.op 0 false false [] <| .op 1 false false [] <| .op 2 false false [] <| .op 3 false false [] <| .op 4 false false [] <| .op 5 false false [] <| .nil) mixed (by kernel_rfl) ?_
    simp -dsimp (maxSteps := 2000000) (disch := first | omega | (simp only [qZ] <;> omega) | fail) only [push_cast, ↓qP, ↓reduceIte, Nat.reduceEqDiff, Nat.reduceAdd, Nat.reduceMul, Nat.reduceSub, Nat.reduceLeDiff, Int.reduceToNat, reduceCtorEq, f8, f9, hcell]
    refine ⟨by omega, ?_⟩
    have hq : (set.getD k false != !b) = (set.getD k false == b) := by cases set.getD k false <;> cases b <;> rfl
    rw [hq] at hsucc
    rcases Bool.eq_false_or_eq_true (set.getD k false == b) with hc | hc
    · rw [if_pos hc] at hsucc
      refine Sm.out ?_
      repeat (first | refine qS ?_ | refine qB ?_ | refine qT rfl ?_ | refine qF rfl ?_ | ((first | refine qR rfl ?_ | refine qK ?_ | refine qE ?_ | refine qW ?_ | refine qM ?_); try simp -dsimp (maxSteps := 2000000) (disch := first | omega | (simp only [qZ] <;> omega) | fail) only [push_cast, ↓qP, ↓reduceIte, Nat.reduceEqDiff, Nat.reduceAdd, Nat.reduceMul, Nat.reduceSub, Nat.reduceLeDiff, Int.reduceToNat, reduceCtorEq, f1, f5, hcell, hc]) | (refine qA ?_ ?_; (first | omega | (simp only [qL]; omega) | (simp only [qD] at *; omega))))
      refine V_append (m := 1) _ _ _ rfl mk_63 rfl (hown.drew.alloc _) rfl [.int .u8 k] ?r rfl (by omega) (by omega) ?kk
      case r => simp -dsimp (maxSteps := 2000000) (disch := first | omega | (simp only [qZ] <;> omega) | fail) only [push_cast, ↓qP, ↓reduceIte, Nat.reduceEqDiff, Nat.reduceAdd, Nat.reduceMul, Nat.reduceSub, Nat.reduceLeDiff, Int.reduceToNat, reduceCtorEq]
      case kk =>
        intro A' cap' w3 hown' hgrow hat
        have kp2 : Kp (fun _ => False) w w3 := (kp.drew.alloc _).grown hgrow (fun q hq hl => by have := hnew q hq; omega)
        have hu : by8s [UInt8.ofNat k] = [.int .u8 k] := by simp [by8s, by8]; omega
        refine Sm.out ?_
        repeat (first | refine qS ?_ | refine qB ?_ | refine qT rfl ?_ | refine qF rfl ?_ | ((first | refine qR rfl ?_ | refine qK ?_ | refine qE ?_ | refine qW ?_ | refine qM ?_); try simp -dsimp (maxSteps := 2000000) (disch := first | omega | (simp only [qZ] <;> omega) | fail) only [push_cast, ↓qP, ↓reduceIte, Nat.reduceEqDiff, Nat.reduceAdd, Nat.reduceMul, Nat.reduceSub, Nat.reduceLeDiff, Int.reduceToNat, reduceCtorEq, f1, f5, f8, f9]) | (refine qA ?_ ?_; (first | omega | (simp only [qL]; omega) | (simp only [qD] at *; omega))))
        refine Again.mk (k + 1) ⟨A', n + 1, cap', by simp [upd, f1], by simp [upd], by simp [upd, f8], by simp [upd], by omega, ?_, by rw [hsucc]; simp; omega, ?_, kp2⟩ (by omega)
        · rw [hsucc, by8s_append, hu]; exact hown'
        · intro q hq
          rcases hat with h | h
          · exact hnew q (h ▸ hq)
          · rw [h] at hq; simp at hq; subst hq; have := kp.size; simp; omega
    · rw [if_neg (by rw [hc]; simp)] at hsucc
      refine Sm.out ?_
      repeat (first | refine qS ?_ | refine qB ?_ | refine qT rfl ?_ | refine qF rfl ?_ | ((first | refine qR rfl ?_ | refine qK ?_ | refine qE ?_ | refine qW ?_ | refine qM ?_); try simp -dsimp (maxSteps := 2000000) (disch := first | omega | (simp only [qZ] <;> omega) | fail) only [push_cast, ↓qP, ↓reduceIte, Nat.reduceEqDiff, Nat.reduceAdd, Nat.reduceMul, Nat.reduceSub, Nat.reduceLeDiff, Int.reduceToNat, reduceCtorEq, f1, f5, hcell, hc, f9]) | (refine qA ?_ ?_; (first | omega | (simp only [qL]; omega) | (simp only [qD] at *; omega))))
      exact Again.mk (k + 1) ⟨A, n, cap, by simp [upd, f1], by simp [upd, f5], by simp [upd, f8], by simp [upd], by omega, by rw [hsucc]; exact hown.drew, by rw [hsucc]; exact hn, hnew, kp.drew⟩ (by omega)
  · have c1 : decide ((k : Int) < 256) = false := decide_eq_false (by omega)
    have hkb : bytesK set (!b) k = bytesOf set (!b) := by rw [show k = 256 by omega]; rfl
    rw [hkb] at hown hn
    repeat (first | refine qS ?_ | refine qB ?_ | refine qT rfl ?_ | refine qF rfl ?_ | ((first | refine qR rfl ?_ | refine qK ?_ | refine qE ?_ | refine qW ?_ | refine qM ?_); try simp -dsimp (maxSteps := 2000000) (disch := first | omega | (simp only [qZ] <;> omega) | fail) only [push_cast, ↓qP, ↓reduceIte, Nat.reduceEqDiff, Nat.reduceAdd, Nat.reduceMul, Nat.reduceSub, Nat.reduceLeDiff, Int.reduceToNat, reduceCtorEq, f5, f9, c1]) | (refine qA ?_ ?_; (first | omega | (simp only [qL]; omega) | (simp only [qD] at *; omega))))
    refine V_str 63 9 _ rfl se_63 ik_5 isStr_9 (bytesOf set (!b)) rfl hn (by8s_str hown hn) ?_
    refine Sm.out ?_
    repeat (first | refine qS ?_ | refine qB ?_ | refine qT rfl ?_ | refine qF rfl ?_ | ((first | refine qR rfl ?_ | refine qK ?_ | refine qE ?_ | refine qW ?_ | refine qM ?_); try simp -dsimp (maxSteps := 2000000) (disch := first | omega | (simp only [qZ] <;> omega) | fail) only [push_cast, ↓qP, ↓reduceIte, Nat.reduceEqDiff, Nat.reduceAdd, Nat.reduceMul, Nat.reduceSub, Nat.reduceLeDiff, Int.reduceToNat, reduceCtorEq]) | (refine qA ?_ ?_; (first | omega | (simp only [qL]; omega) | (simp only [qD] at *; omega))))
    exact Ret.mk ⟨rfl, kp⟩
end
end Go.Proofs.Ytddichibegppjaa

/- The program's reader: an item of a set. -/
namespace Go.Proofs.Ytddichibegppjaa
open Go Go.VC Go.RowKit

theorem index_end (l : List UInt8) : ∀ (k p : Nat), l.length ≤ p + k → Lib.index (l.drop p) [58, 93] = if clEnd l k p + 1 < l.length then ((clEnd l k p - p : Nat) : Int) else -1
  | k, p, hk => by
    rcases Nat.lt_or_ge p l.length with hp | hp
    case inr =>
      have hc : clEnd l k p = p := by
        cases k with
        | zero => rfl
        | succ k => unfold clEnd; rw [decide_eq_false (by omega : ¬ p + 1 < l.length)]; rfl
      rw [List.drop_of_length_le hp, hc, if_neg (by omega)]; rfl
    obtain ⟨k, rfl⟩ : ∃ k', k = k' + 1 := ⟨k - 1, by omega⟩
    have hpre := pre2 l p 58 93
    unfold Lib.hasPrefix at hpre
    have hdr := drop_at hp
    have hge := clEnd_le l k (p + 1)
    rw [hdr] at hpre ⊢
    unfold Lib.index
    have hlow := Lib.index_ge (l.drop (p + 1)) [58, 93]
    rcases Nat.lt_or_ge (p + 1) l.length with hp1 | hp1
    · have h1 : hasAt l p 58 = (byteAt l p == 58) := hasAt_eq _ hp
      have h2 : hasAt l (p + 1) 93 = (byteAt l (p + 1) == 93) := hasAt_eq _ hp1
      rw [h1, h2] at hpre
      cases hm : (byteAt l p == 58 && byteAt l (p + 1) == 93) with
      | true =>
        rw [hm] at hpre
        have hc : clEnd l (k + 1) p = p := by unfold clEnd; rw [hm, decide_eq_true hp1]; rfl
        rw [if_pos hpre, hc, if_pos hp1, Nat.sub_self]; rfl
      | false =>
        rw [hm] at hpre
        have hc : clEnd l (k + 1) p = clEnd l k (p + 1) := by
          show (if (decide (p + 1 < l.length) && !(byteAt l p == 58 && byteAt l (p + 1) == 93)) = true then _ else _) = _
          rw [hm, decide_eq_true hp1]; rfl
        have ih := index_end l k (p + 1) (by omega)
        rw [if_neg (by rw [hpre]; simp), hc, ih]
        by_cases hf : clEnd l k (p + 1) + 1 < l.length
        · simp only [if_pos hf]
          rw [if_neg (by rw [beq_iff_eq]; omega)]; omega
        · simp only [if_neg hf]; rfl
    · have hc : clEnd l (k + 1) p = p := by unfold clEnd; rw [decide_eq_false (by omega : ¬ p + 1 < l.length)]; rfl
      have hm : hasAt l (p + 1) 93 = false := by unfold hasAt; rw [decide_eq_false (by omega)]; rfl
      rw [hm, Bool.and_false] at hpre
      rw [if_neg (by rw [hpre]; simp), hc, List.drop_of_length_le hp1]
      rw [if_neg (show ¬ p + 1 < l.length by omega)]; rfl
theorem cut_end (l : List UInt8) (p : Nat) : Lib.cut (l.drop p) [58, 93] =
    if clEnd l l.length p + 1 < l.length then ((l.drop p).take (clEnd l l.length p - p), l.drop (clEnd l l.length p + 2), true) else (l.drop p, [], false) := by
  unfold Lib.cut
  rw [index_end l l.length p (by omega)]
  have hge := clEnd_le l l.length p
  by_cases h : clEnd l l.length p + 1 < l.length
  · rw [if_pos h, if_pos h, if_pos (by omega), Int.toNat_natCast, List.drop_drop]
    congr 3
    simp; omega
  · rw [if_neg h, if_neg h, if_neg (by decide)]

/-- The library's own number. -/
def MaxL (w : World) : Prop := ∃ m, w.cell? ⟨1, 0, none⟩ = some (.int .i64 m)
theorem MaxL.kp {S : Nat → Prop} {w w' : World} (h : MaxL w) (k : Kp S w w') (hs : ¬ S 1) : MaxL w' := by
  obtain ⟨m, h⟩ := h
  have hlt : 1 < w.heap.size := rdc_lt (b := 1) (i := 0) h
  exact ⟨m, (k.rdc (b := 1) (i := 0) hlt hs).trans h⟩
section
variable {w : World} {a g : Nat} {l : List UInt8} {i : Nat} {d : Int} {set : List Bool}

theorem item_any {s : S3} (h : Rd w a l s.i d) (hg : Blk w g 149 (bools set)) (hset : set.length = 256) (ha : a ≠ 1) (hg1 : g ≠ 1) (hM : MaxL w) (hs : s.f = 0) (hd : s.d = d) (hi : s.i < l.length) (hl : l.length ≤ 1000000) : Calls Try.prog 111 #[.pointer (some ⟨a, 0, none⟩), .pointer (some ⟨g, 0, none⟩)] w fun e w' =>
    ((item3 l s set).2.2.f = 0 ∧ e = .returned (.tuple #[.int .u8 ((item3 l s set).1.1.toNat : Int), .bool (item3 l s set).1.2]) ∧ Rd w' a l (item3 l s set).2.2.i d ∧ Blk w' g 149 (bools (item3 l s set).2.1) ∧ Kp (fun b => b = a ∨ b = g) w w') ∨
    ((item3 l s set).2.2.f ≠ 0 ∧ ∃ k : Int, e = .panicked (flt k) ∧ 1 ≤ k ∧ k ≤ 5 ∧ Kp (fun b => b = a ∨ b = g) w w') := by
  have hag : a ≠ g := h.blk.ne hg (by decide)
  have toA : ∀ {u v : World}, Kp (fun b => b = a) u v → Kp (fun b => b = a ∨ b = g) u v := fun k => k.mono fun _ _ h => .inl h
  have toG : ∀ {u v : World}, Kp (fun b => b = g) u v → Kp (fun b => b = a ∨ b = g) u v := fun k => k.mono fun _ _ h => .inr h
  have to0 : ∀ {u v : World}, Kp (fun _ => False) u v → Kp (fun b => b = a ∨ b = g) u v := fun k => k.mono fun _ _ h => h.elim
  refine enter (n := 52) (args := [.pointer (some ⟨a, 0, none⟩), .pointer (some ⟨g, 0, none⟩)]) Try.func111 rfl rfl rfl (by simp) ?_
  repeat (first | refine qS ?_ | refine qB ?_ | refine qT rfl ?_ | refine qF rfl ?_ | ((first | refine qR rfl ?_ | refine qK ?_ | refine qE ?_ | refine qW ?_ | refine qM ?_); try simp -dsimp (maxSteps := 2000000) (disch := first | omega | (simp only [qZ] <;> omega) | fail) only [push_cast, ↓qP, ↓reduceIte, Nat.reduceEqDiff, Nat.reduceAdd, Nat.reduceMul, Nat.reduceSub, Nat.reduceLeDiff, Int.reduceToNat, reduceCtorEq]) | (refine qA ?_ ?_; (first | omega | (simp only [qL]; omega) | (simp only [qD] at *; omega))))
  refine CallV.of isCall_89 (take_two h 91 58) ?_
  rintro _ w1 ⟨rfl, h1, k1⟩
  have hM1 := hM.kp k1 (fun e => ha e.symm)
  have hg1' := k1.Blk hg (fun e => hag e.symm)
  have hcond : (byteAt l s.i == 91 && decide (s.i + 1 < l.length) && byteAt l (s.i + 1) == 58) = (hasAt l s.i 91 && hasAt l (s.i + 1) 58) := by
    rw [hasAt_eq 91 hi]; unfold hasAt; rw [Bool.and_assoc]
  cases hc : (hasAt l s.i 91 && hasAt l (s.i + 1) 58) with
  | true =>
    rw [hc] at h1 hcond
    have h1 : Rd w1 a l (s.i + 2) d := h1
    have hb1 := h1.blk.rdc
    have hz1 := h1.blk.fz
    obtain ⟨E, hE⟩ : ∃ E, E = clEnd l l.length (s.i + 2) := ⟨_, rfl⟩
    have hcut := cut_end l (s.i + 2)
    rw [← hE] at hcut
    have hitem : item3 l s set = (if E + 1 ≥ l.length then ((0, false), set, s.fail 2) else if (in3 ((l.drop (s.i + 2)).take (E - (s.i + 2))) 0).2 then ((0, false), clPut ((l.drop (s.i + 2)).take (E - (s.i + 2))) set, { s with i := E + 2 }) else ((0, false), set, s.fail 2)) := by
      unfold item3; rw [hcond, if_pos rfl, hE]
    rw [hitem]
    refine Sm.out ?_
    repeat (first | refine qS ?_ | refine qB ?_ | refine qT rfl ?_ | refine qF rfl ?_ | ((first | refine qR rfl ?_ | refine qK ?_ | refine qE ?_ | refine qW ?_ | refine qM ?_); try simp -dsimp (maxSteps := 2000000) (disch := first | omega | (simp only [qZ] <;> omega) | fail) only [push_cast, ↓qP, ↓reduceIte, Nat.reduceEqDiff, Nat.reduceAdd, Nat.reduceMul, Nat.reduceSub, Nat.reduceLeDiff, Int.reduceToNat, reduceCtorEq, hb1]) | (refine qA ?_ ?_; (first | omega | (simp only [qL]; omega) | (simp only [qD] at *; omega))))
    obtain ⟨m, hm⟩ := hM1
    refine CallV.of isCall_114 (Try.strings_Cut _ _ m _ (by rw [B_size]; simp; omega) hm) ?_
    rintro _ w2 ⟨rfl, n, rfl⟩
    rw [B_toList, B_toList, hcut]
    have h2 : Rd (w1.drewN n) a l (s.i + 2) d := h1
    have hg2 : Blk (w1.drewN n) g 149 (bools set) := hg1'
    have k2 : Kp (fun _ => False) w1 (w1.drewN n) := ⟨rfl, rfl, rfl, Nat.le_refl _, fun _ _ _ => rfl⟩
    have hb2 := h2.blk.rdc
    have hz2 := h2.blk.fz
    by_cases hf : E + 1 < l.length
    · rw [if_pos hf, if_neg (by omega)]
      refine Sm.out ?_
      repeat (first | refine qS ?_ | refine qB ?_ | refine qT rfl ?_ | refine qF rfl ?_ | ((first | refine qR rfl ?_ | refine qK ?_ | refine qE ?_ | refine qW ?_ | refine qM ?_); try simp -dsimp (maxSteps := 2000000) (disch := first | omega | (simp only [qZ] <;> omega) | fail) only [push_cast, ↓qP, ↓reduceIte, Nat.reduceEqDiff, Nat.reduceAdd, Nat.reduceMul, Nat.reduceSub, Nat.reduceLeDiff, Int.reduceToNat, reduceCtorEq, hb2]) | (refine qA ?_ ?_; (first | omega | (simp only [qL]; omega) | (simp only [qD] at *; omega))))
      refine CallV.of isCall_115 (class_any hg2 hset _) ?_
      rintro _ w3 ⟨rfl, hg3, k3⟩
      have h3 : Rd w3 a l (s.i + 2) d := h2.keep k3 hag
      have hb3 := h3.blk.rdc
      have hz3 := h3.blk.fz
      have hlt3 := h3.lt
      cases hin : (in3 ((l.drop (s.i + 2)).take (E - (s.i + 2))) 0).2 with
      | true =>
        rw [hin] at hg3
        refine Sm.out ?_
        repeat (first | refine qS ?_ | refine qB ?_ | refine qT rfl ?_ | refine qF rfl ?_ | ((first | refine qR rfl ?_ | refine qK ?_ | refine qE ?_ | refine qW ?_ | refine qM ?_); try simp -dsimp (maxSteps := 2000000) (disch := first | omega | (simp only [qZ] <;> omega) | fail) only [push_cast, ↓qP, ↓reduceIte, Nat.reduceEqDiff, Nat.reduceAdd, Nat.reduceMul, Nat.reduceSub, Nat.reduceLeDiff, Int.reduceToNat, reduceCtorEq, hb3, hz3]) | (refine qA ?_ ?_; (first | omega | (simp only [qL]; omega) | (simp only [qD] at *; omega))))
        have kk := ((toA k1).trans (to0 k2)).trans (toG k3)
        exact Ret.mk (.inl ⟨hs, rfl, h3.blk.set 0 _, Blk.far (p := ⟨a, 0, none⟩) hg3 (fun e => hag e.symm) _, kk.setCell (fun _ => .inl rfl) _⟩)
      | false =>
        refine Sm.out ?_
        repeat (first | refine qS ?_ | refine qB ?_ | refine qT rfl ?_ | refine qF rfl ?_ | ((first | refine qR rfl ?_ | refine qK ?_ | refine qE ?_ | refine qW ?_ | refine qM ?_); try simp -dsimp (maxSteps := 2000000) (disch := first | omega | (simp only [qZ] <;> omega) | fail) only [push_cast, ↓qP, ↓reduceIte, Nat.reduceEqDiff, Nat.reduceAdd, Nat.reduceMul, Nat.reduceSub, Nat.reduceLeDiff, Int.reduceToNat, reduceCtorEq]) | (refine qA ?_ ?_; (first | omega | (simp only [qL]; omega) | (simp only [qD] at *; omega))))
        exact Pan.mk (.inr ⟨fail_f _ (by decide), 2, rfl, by decide, by decide, ((toA k1).trans (to0 k2)).trans (toG k3)⟩)
    · rw [if_neg hf, if_pos (by omega)]
      refine Sm.out ?_
      repeat (first | refine qS ?_ | refine qB ?_ | refine qT rfl ?_ | refine qF rfl ?_ | ((first | refine qR rfl ?_ | refine qK ?_ | refine qE ?_ | refine qW ?_ | refine qM ?_); try simp -dsimp (maxSteps := 2000000) (disch := first | omega | (simp only [qZ] <;> omega) | fail) only [push_cast, ↓qP, ↓reduceIte, Nat.reduceEqDiff, Nat.reduceAdd, Nat.reduceMul, Nat.reduceSub, Nat.reduceLeDiff, Int.reduceToNat, reduceCtorEq]) | (refine qA ?_ ?_; (first | omega | (simp only [qL]; omega) | (simp only [qD] at *; omega))))
      exact Pan.mk (.inr ⟨fail_f _ (by decide), 2, rfl, by decide, by decide, (toA k1).trans (to0 k2)⟩)
  | false =>
  rw [hc] at h1 hcond
  have h1 : Rd w1 a l s.i d := h1
  refine Sm.out ?_
  repeat (first | refine qS ?_ | refine qB ?_ | refine qT rfl ?_ | refine qF rfl ?_ | ((first | refine qR rfl ?_ | refine qK ?_ | refine qE ?_ | refine qW ?_ | refine qM ?_); try simp -dsimp (maxSteps := 2000000) (disch := first | omega | (simp only [qZ] <;> omega) | fail) only [push_cast, ↓qP, ↓reduceIte, Nat.reduceEqDiff, Nat.reduceAdd, Nat.reduceMul, Nat.reduceSub, Nat.reduceLeDiff, Int.reduceToNat, reduceCtorEq]) | (refine qA ?_ ?_; (first | omega | (simp only [qL]; omega) | (simp only [qD] at *; omega))))
  refine CallV.of isCall_89 (take_one h1 92) ?_
  rintro _ w2 ⟨rfl, h2, k2⟩
  have hg2' := k2.Blk hg1' (fun e => hag e.symm)
  rw [hasAt_eq 92 hi] at h2 ⊢
  cases hc2 : byteAt l s.i == 92 with
  | true =>
    rw [hc2] at h2
    have h2 : Rd w2 a l (s.i + 1) d := h2
    have hitem : item3 l s set = (((escape3 l s).1, true), set, (escape3 l s).2) := by unfold item3; rw [hcond, hc2]; rfl
    rw [hitem]
    refine Sm.out ?_
    repeat (first | refine qS ?_ | refine qB ?_ | refine qT rfl ?_ | refine qF rfl ?_ | ((first | refine qR rfl ?_ | refine qK ?_ | refine qE ?_ | refine qW ?_ | refine qM ?_); try simp -dsimp (maxSteps := 2000000) (disch := first | omega | (simp only [qZ] <;> omega) | fail) only [push_cast, ↓qP, ↓reduceIte, Nat.reduceEqDiff, Nat.reduceAdd, Nat.reduceMul, Nat.reduceSub, Nat.reduceLeDiff, Int.reduceToNat, reduceCtorEq]) | (refine qA ?_ ?_; (first | omega | (simp only [qL]; omega) | (simp only [qD] at *; omega))))
    refine CallV.of isCall_106 (escaped_any h2 hs hd (by omega) hl) ?_
    rintro e w3 (⟨q1, rfl, h3, k3⟩ | ⟨q1, k, rfl, b1, b2, k3⟩)
    · refine Sm.out ?_
      repeat (first | refine qS ?_ | refine qB ?_ | refine qT rfl ?_ | refine qF rfl ?_ | ((first | refine qR rfl ?_ | refine qK ?_ | refine qE ?_ | refine qW ?_ | refine qM ?_); try simp -dsimp (maxSteps := 2000000) (disch := first | omega | (simp only [qZ] <;> omega) | fail) only [push_cast, ↓qP, ↓reduceIte, Nat.reduceEqDiff, Nat.reduceAdd, Nat.reduceMul, Nat.reduceSub, Nat.reduceLeDiff, Int.reduceToNat, reduceCtorEq]) | (refine qA ?_ ?_; (first | omega | (simp only [qL]; omega) | (simp only [qD] at *; omega))))
      exact Ret.mk (.inl ⟨q1, rfl, h3, k3.Blk hg2' (fun e => hag e.symm), (toA k1).trans ((toA k2).trans (toA k3))⟩)
    · refine Sm.out ?_
      repeat (first | refine qS ?_ | refine qB ?_ | refine qT rfl ?_ | refine qF rfl ?_ | ((first | refine qR rfl ?_ | refine qK ?_ | refine qE ?_ | refine qW ?_ | refine qM ?_); try simp -dsimp (maxSteps := 2000000) (disch := first | omega | (simp only [qZ] <;> omega) | fail) only [push_cast, ↓qP, ↓reduceIte, Nat.reduceEqDiff, Nat.reduceAdd, Nat.reduceMul, Nat.reduceSub, Nat.reduceLeDiff, Int.reduceToNat, reduceCtorEq]) | (refine qA ?_ ?_; (first | omega | (simp only [qL]; omega) | (simp only [qD] at *; omega))))
      exact Pan.mk (.inr ⟨q1, k, rfl, b1, b2, (toA k1).trans ((toA k2).trans (toA k3))⟩)
  | false =>
    rw [hc2] at h2
    have h2 : Rd w2 a l s.i d := h2
    have hitem : item3 l s set = ((byteAt l s.i, true), set, s.on) := by unfold item3; rw [hcond, hc2]; rfl
    rw [hitem]
    have hb2 := h2.blk.rdc
    have hz2 := h2.blk.fz
    have hlt2 := h2.lt
    have hgg := getD_drop l s.i 0
    have hll : (l.drop s.i).length = l.length - s.i := by simp
    have hl0 : 0 < (l.drop s.i).length := by omega
    have hli : ((l.length : Int) - (s.i : Int)).toNat = l.length - s.i := by omega
    have hdd : (l.drop s.i).drop 1 = l.drop (s.i + 1) := by rw [List.drop_drop]
    have htt : ((l.drop (s.i + 1)).take (l.length - s.i - 1)) = l.drop (s.i + 1) := List.take_of_length_le (by simp; omega)
    refine Sm.out ?_
    repeat (first | refine qS ?_ | refine qB ?_ | refine qT rfl ?_ | refine qF rfl ?_ | ((first | refine qR rfl ?_ | refine qK ?_ | refine qE ?_ | refine qW ?_ | refine qM ?_); try simp -dsimp (maxSteps := 2000000) (disch := first | omega | (simp only [qZ] <;> omega) | fail) only [push_cast, ↓qP, ↓reduceIte, Nat.reduceEqDiff, Nat.reduceAdd, Nat.reduceMul, Nat.reduceSub, Nat.reduceLeDiff, Int.reduceToNat, reduceCtorEq, hb2, hz2, hgg, hll, hli, hdd, htt]) | (refine qA ?_ ?_; (first | omega | (simp only [qL]; omega) | (simp only [qD] at *; omega))))
    exact Ret.mk (.inl ⟨hs, rfl, h2.blk.set 0 _, Blk.far (p := ⟨a, 0, none⟩) hg2' (fun e => hag e.symm) _, ((toA k1).trans (toA k2)).setCell (fun _ => .inl rfl) _⟩)
end
end Go.Proofs.Ytddichibegppjaa

/- The program's reader: sets. -/
namespace Go.Proofs.Ytddichibegppjaa
open Go Go.VC Go.RowKit

/-- What a reader's part brings, or its fault. -/
abbrev OutG (w : World) (a : Nat) (l : List UInt8) (r : Option (Re × S3)) (e : Ending) (w' : World) : Prop :=
  (∃ t s' cs, r = some (t, s') ∧ s'.f = 0 ∧ e = .returned (.agg cs.toArray) ∧ IsRe w' (fun b => w.heap.size ≤ b ∧ b < w'.heap.size) t cs ∧ Rd w' a l s'.i s'.d ∧ Kp (· = a) w w') ∨
  (∃ t s', r = some (t, s') ∧ s'.f ≠ 0 ∧ Pn w a e w')
theorem putR_one {set : List Bool} {c : Nat} (h : c < set.length) : putR set c c = set.set c true := by
  rw [← putK_all, putK_succ _ _ _ h (Nat.le_refl _), putK_zero]
theorem bools_noSet : bools noSet = List.replicate 256 (.bool false) := by simp [bools, noSet]

section
variable {a : Nat} {l : List UInt8} {s s' : S3} {w w1 w2 : World} {set : List Bool}
structure S5 (w : World) (a : Nat) (l : List UInt8) (s : S3) (set : List Bool) (w' : World) : Prop where
  rd : Rd w' a l s.i s.d
  r : Blk w' w.heap.size 33 zRe
  g : Blk w' (w.heap.size + 1) 149 (bools set)
  kp : Kp (· = a) w w'
  lt : a < w.heap.size
  len : set.length = 256
theorem S5.keep (h : S5 w a l s set w1) (h2 : Rd w2 a l s'.i s'.d) (hk : Kp (· = a) w1 w2) : S5 w a l s' set w2 :=
  ⟨h2, hk.Blk h.r (by have := h.lt; omega), hk.Blk h.g (by have := h.lt; omega), h.kp.trans hk, h.lt, h.len⟩
theorem S5.item (h : S5 w a l s set w1) {set' : List Bool} (h2 : Rd w2 a l s'.i s'.d) (hg : Blk w2 (w.heap.size + 1) 149 (bools set')) (hl : set'.length = set.length) (hk : Kp (fun b => b = a ∨ b = w.heap.size + 1) w1 w2) : S5 w a l s' set' w2 :=
  ⟨h2, hk.Blk h.r (by have := h.lt; omega), hg, h.kp.trans' hk (fun i hi e => by have := h.lt; omega), h.lt, hl.trans h.len⟩
theorem S5.out (h : S5 w a l s' set w1) {r : Option (Re × S3)} {x : List UInt8} {F : Fr} (hr : r = some (.node opSet x [] 0 0, s')) (hf : s'.f = 0) (hF : F 2 = .pointer (some ⟨w.heap.size, 0, none⟩)) :
    post Try.prog [.cell 2 33] (OutG w a l r) .mk .ret F (w1.setCells w.heap.size 0 [.string (B opSet), .string (B x), .slice none 0 0, .int .i64 0, .int .i64 0]) := by
  have h2 := (h.r.setAll (vs := [.string (B opSet), .string (B x), .slice none 0 0, .int .i64 0, .int .i64 0]) rfl).rdn
  exact post_cell hF tk_33 h2 (.inl ⟨_, s', _, hr, hf, rfl, set_is _ _ _ _, Blk.farCells (Nat.ne_of_lt h.lt) _ _ _ h.rd, Kp.setCells h.kp (fun h' => absurd h' (Nat.lt_irrefl _)) _ _⟩)
theorem S5.pn (h : S5 w a l s set w1) {r : Option (Re × S3)} {t : Re} {s' : S3} (hr : r = some (t, s')) (hf : s'.f ≠ 0) {k : Int} (h1 : 1 ≤ k) (h2 : k ≤ 5) {w3 : World} (hk : Kp (fun b => b = a ∨ b = w.heap.size + 1) w1 w3) : OutG w a l r (.panicked (flt k)) w3 :=
  .inr ⟨t, s', hr, hf, k, rfl, h1, h2, h.kp.trans' hk (fun i hi e => by have := h.lt; omega)⟩
theorem zeros149 (o : Oper) (F : Fr) (w : World) (ho : o.op = .build 149 #[]) : (execOp (ev F) o).run Try.prog w = .ok (.value (.agg (List.replicate 256 (.bool false)).toArray)) w := by
  simp only [execOp, ho]
  kernel_rfl

theorem brk_any (h : Rd w a l (s.i + 1) s.d) (ha : a ≠ 1) (hM : MaxL w) (hs : s.f = 0) (hi : s.i + 1 ≤ l.length) (hl : l.length ≤ 1000000) : Calls Try.prog 104 #[.pointer (some ⟨a, 0, none⟩)] w (OutG w a l (bracket3 l s)) := by
  have hlt := h.lt
  have h1w : 1 < w.heap.size := rdc_lt (b := 1) (i := 0) hM.choose_spec
  refine enter (n := 88) (args := [.pointer (some ⟨a, 0, none⟩)]) Try.func104 rfl rfl rfl (by simp) ?_
  refine Sm.out ?_
  repeat (first | ((fail_if_success (first | refine qY (n := 2) ?_ | refine qV (n := 2) ?_)); refine qS ?_) | refine qB ?_ | refine qT rfl ?_ | refine qF rfl ?_ | ((first | refine qR rfl ?_ | refine qK ?_ | refine qE ?_ | refine qW ?_ | refine qM ?_); try simp -dsimp (maxSteps := 2000000) (disch := first | omega | (simp only [qZ] <;> omega) | fail) only [push_cast, ↓qP, ↓reduceIte, Nat.reduceEqDiff, Nat.reduceAdd, Nat.reduceMul, Nat.reduceSub, Nat.reduceLeDiff, Int.reduceToNat, reduceCtorEq]) | (refine qA ?_ ?_; (first | omega | (simp only [qL]; omega) | (simp only [qD] at *; omega))))
  have hnew : S5 w a l s.on noSet ((w.alloc (.cells zRe.toArray 33)).alloc (.cells (List.replicate 256 (Value.bool false)).toArray 149)) := by
    refine ⟨(h.alloc _).alloc _, (Blk.new _ _ _).alloc _, ?_, ((Kp.refl _ w).alloc _).alloc _, hlt, rfl⟩
    have := Blk.new (w.alloc (.cells zRe.toArray 33)) 149 (List.replicate 256 (Value.bool false))
    rw [bools_noSet]
    simpa using this
  refine Wp.gen (A := S5 w a l s.on noSet) hnew ?_
  clear hnew h
  intro W h
  obtain ⟨r, hr⟩ : ∃ r, r = w.heap.size := ⟨_, rfl⟩
  rw [← hr]
  repeat (first | refine qS ?_ | refine qB ?_ | refine qT rfl ?_ | refine qF rfl ?_ | ((first | refine qR rfl ?_ | refine qK ?_ | refine qE ?_ | refine qW ?_ | refine qM ?_); try simp -dsimp (maxSteps := 2000000) (disch := first | omega | (simp only [qZ] <;> omega) | fail) only [push_cast, ↓qP, ↓reduceIte, Nat.reduceEqDiff, Nat.reduceAdd, Nat.reduceMul, Nat.reduceSub, Nat.reduceLeDiff, Int.reduceToNat, reduceCtorEq]) | (refine qA ?_ ?_; (first | omega | (simp only [qL]; omega) | (simp only [qD] at *; omega))))
  refine CallV.of isCall_89 (take_one h.rd 94) ?_
  rintro _ w1 ⟨rfl, h1', k1⟩
  have h1 := h.keep (s' := { s with i := if hasAt l s.on.i 94 then s.on.i + 1 else s.on.i }) h1' k1
  obtain ⟨nt, hnt⟩ : ∃ nt, nt = hasAt l s.on.i 94 := ⟨_, rfl⟩
  rw [← hnt] at h1 ⊢
  clear h h1' k1
  obtain ⟨s2, hs2⟩ : ∃ s2 : S3, s2 = { s with i := if nt then s.on.i + 1 else s.on.i } := ⟨_, rfl⟩
  rw [← hs2] at h1
  have hbr : bracket3 l s = match items3 l (l.length + 2) true noSet s2 with
      | none => none
      | some (none, s3) => some (Re.zero, s3)
      | some (some set, s3) => some (.node opSet (bytesOf set nt) [] 0 0, s3) := by
    have e : (more3 l s.on && byteAt l s.on.i == 94) = nt := by
      rw [hnt]; unfold more3 hasAt S3.on; rw [hs]
      rw [show decide (((s.i + 1 : Nat) : Int) < (l.length : Int)) = decide (s.i + 1 < l.length) from decide_eq_decide.2 (by omega)]
      simp
    have e2 : s2 = (if nt then s.on.on else s.on) := by rw [hs2]; cases nt <;> rfl
    unfold bracket3
    simp only [e]
    rw [e2]
    rfl
  have hi2 : s2.i ≤ l.length ∧ s2.f = 0 ∧ s2.d = s.d := by
    rw [hs2]
    refine ⟨?_, hs, rfl⟩
    show (if nt then s.i + 1 + 1 else s.i + 1) ≤ _
    cases hc : nt with
    | false => exact hi
    | true =>
      have : s.i + 1 < l.length := hasAt_lt (hnt ▸ hc)
      show s.i + 1 + 1 ≤ _; omega
  clear hs2 hnt
  obtain ⟨R, hR⟩ : ∃ R, items3 l (l.length + 2) true noSet s2 = R := ⟨_, rfl⟩
  rw [hR] at hbr
  refine Sm.out ?_
  repeat (first | ((fail_if_success (first | refine qY (n := 3) ?_ | refine qV (n := 3) ?_)); refine qS ?_) | refine qB ?_ | refine qT rfl ?_ | refine qF rfl ?_ | ((first | refine qR rfl ?_ | refine qK ?_ | refine qE ?_ | refine qW ?_ | refine qM ?_); try simp -dsimp (maxSteps := 2000000) (disch := first | omega | (simp only [qZ] <;> omega) | fail) only [push_cast, ↓qP, ↓reduceIte, Nat.reduceEqDiff, Nat.reduceAdd, Nat.reduceMul, Nat.reduceSub, Nat.reduceLeDiff, Int.reduceToNat, reduceCtorEq]) | (refine qA ?_ ?_; (first | omega | (simp only [qL]; omega) | (simp only [qD] at *; omega))))
  refine Wp.cutQ (fun F' w' => F' 2 = .pointer (some ⟨r, 0, none⟩) ∧ F' 3 = .pointer (some ⟨r + 1, 0, none⟩) ∧ F' 4 = .bool (!nt) ∧ ∃ set s3, R = some (some set, s3) ∧ s3.f = 0 ∧ S5 w a l s3 set w') ?_ ?_
  · repeat (first | refine qS ?_ | refine qB ?_ | refine qT rfl ?_ | refine qF rfl ?_ | ((first | refine qR rfl ?_ | refine qK ?_ | refine qE ?_ | refine qW ?_ | refine qM ?_); try simp -dsimp (maxSteps := 2000000) (disch := first | omega | (simp only [qZ] <;> omega) | fail) only [push_cast, ↓qP, ↓reduceIte, Nat.reduceEqDiff, Nat.reduceAdd, Nat.reduceMul, Nat.reduceSub, Nat.reduceLeDiff, Int.reduceToNat, reduceCtorEq]) | (refine qA ?_ ?_; (first | omega | (simp only [qL]; omega) | (simp only [qD] at *; omega))))
    refine Wp.loop (α := Nat) (fun k F W => F 0 = .pointer (some ⟨a, 0, none⟩) ∧ F 2 = .pointer (some ⟨r, 0, none⟩) ∧ F 3 = .pointer (some ⟨r + 1, 0, none⟩) ∧ F 4 = .bool (!nt) ∧
      ∃ first set s', F 5 = .bool first ∧ S5 w a l s' set W ∧ s'.f = 0 ∧ s'.i ≤ l.length ∧ l.length + 2 ≤ s'.i + k ∧ Hide (items3 l k first set s' = R)) (fun k => k) (l.length + 2)
      ⟨by simp [upd, arg], by simp [upd], by simp [upd], by simp [upd], true, noSet, s2, by simp [upd], h1, hi2.2.1, hi2.1, by omega, ⟨hR⟩⟩ ?_
    clear h1 hR
    replace hbr : Hide _ := ⟨hbr⟩
    rintro k F W ⟨f0, f2, f3, f4, first, set, s', f5, h, hf, hi', hk, hit⟩
    obtain ⟨k, rfl⟩ : ∃ k', k = k' + 1 := ⟨k - 1, by omega⟩
    have hit1 := hit.out.symm
    simp only [items3] at hit1
    rw [if_neg (by rw [hf]; simp)] at hit1
    clear hit
    -- the closing bracket?
    refine Wp.cutQ (fun F w4 => F 0 = .pointer (some ⟨a, 0, none⟩) ∧ F 2 = .pointer (some ⟨r, 0, none⟩) ∧ F 3 = .pointer (some ⟨r + 1, 0, none⟩) ∧ F 4 = .bool (!nt) ∧ S5 w a l s' set w4 ∧ (s'.i < l.length → (byteAt l s'.i == 93 && !first) = false)) ?_ ?_
    · cases first with
      | true =>
        repeat (first | refine qS ?_ | refine qB ?_ | refine qT rfl ?_ | refine qF rfl ?_ | ((first | refine qR rfl ?_ | refine qK ?_ | refine qE ?_ | refine qW ?_ | refine qM ?_); try simp -dsimp (maxSteps := 2000000) (disch := first | omega | (simp only [qZ] <;> omega) | fail) only [push_cast, ↓qP, ↓reduceIte, Nat.reduceEqDiff, Nat.reduceAdd, Nat.reduceMul, Nat.reduceSub, Nat.reduceLeDiff, Int.reduceToNat, reduceCtorEq, f5]) | (refine qA ?_ ?_; (first | omega | (simp only [qL]; omega) | (simp only [qD] at *; omega))))
        exact Mid.mk ⟨by simp [upd, f0], by simp [upd, f2], by simp [upd, f3], by simp [upd, f4], h, fun _ => by simp⟩
      | false =>
        repeat (first | refine qS ?_ | refine qB ?_ | refine qT rfl ?_ | refine qF rfl ?_ | ((first | refine qR rfl ?_ | refine qK ?_ | refine qE ?_ | refine qW ?_ | refine qM ?_); try simp -dsimp (maxSteps := 2000000) (disch := first | omega | (simp only [qZ] <;> omega) | fail) only [push_cast, ↓qP, ↓reduceIte, Nat.reduceEqDiff, Nat.reduceAdd, Nat.reduceMul, Nat.reduceSub, Nat.reduceLeDiff, Int.reduceToNat, reduceCtorEq, f5, f0]) | (refine qA ?_ ?_; (first | omega | (simp only [qL]; omega) | (simp only [qD] at *; omega))))
        refine CallV.of isCall_89 (take_one h.rd 93) ?_
        rintro _ w5 ⟨rfl, h5, k5⟩
        cases hc : hasAt l s'.i 93 with
        | true =>
          rw [hc] at h5
          have hlt2 := hasAt_lt hc
          rw [hasAt_eq _ hlt2] at hc
          rw [if_neg (by omega), hc] at hit1
          refine Sm.out ?_
          repeat (first | refine qS ?_ | refine qB ?_ | refine qT rfl ?_ | refine qF rfl ?_ | ((first | refine qR rfl ?_ | refine qK ?_ | refine qE ?_ | refine qW ?_ | refine qM ?_); try simp -dsimp (maxSteps := 2000000) (disch := first | omega | (simp only [qZ] <;> omega) | fail) only [push_cast, ↓qP, ↓reduceIte, Nat.reduceEqDiff, Nat.reduceAdd, Nat.reduceMul, Nat.reduceSub, Nat.reduceLeDiff, Int.reduceToNat, reduceCtorEq, f5]) | (refine qA ?_ ?_; (first | omega | (simp only [qL]; omega) | (simp only [qD] at *; omega))))
          exact Mid.mk ⟨by simp [upd, f2], by simp [upd, f3], by simp [upd, f4], set, s'.on, hit1, hf, h.keep h5 k5⟩
        | false =>
          rw [hc] at h5
          refine Sm.out ?_
          repeat (first | refine qS ?_ | refine qB ?_ | refine qT rfl ?_ | refine qF rfl ?_ | ((first | refine qR rfl ?_ | refine qK ?_ | refine qE ?_ | refine qW ?_ | refine qM ?_); try simp -dsimp (maxSteps := 2000000) (disch := first | omega | (simp only [qZ] <;> omega) | fail) only [push_cast, ↓qP, ↓reduceIte, Nat.reduceEqDiff, Nat.reduceAdd, Nat.reduceMul, Nat.reduceSub, Nat.reduceLeDiff, Int.reduceToNat, reduceCtorEq, f5]) | (refine qA ?_ ?_; (first | omega | (simp only [qL]; omega) | (simp only [qD] at *; omega))))
          refine Mid.mk ⟨by simp [upd, f0], by simp [upd, f2], by simp [upd, f3], by simp [upd, f4], h.keep h5 k5, fun hl => ?_⟩
          rw [hasAt_eq _ hl] at hc
          rw [hc]; rfl
    clear f0 f2 f3 f4 f5 h
    intro F W hMd
    obtain ⟨f0, f2, f3, f4, h, hcl⟩ := hMd.out
    clear hMd
    have hb := h.rd.blk.rdc
    have he := empty_iff (l := l) (i := s'.i)
    rcases Nat.lt_or_ge s'.i l.length with hi1 | hi1
    case inr =>
      rw [if_pos (by omega)] at hit1
      rw [decide_eq_true hi1] at he
      repeat (first | refine qS ?_ | refine qB ?_ | refine qT rfl ?_ | refine qF rfl ?_ | ((first | refine qR rfl ?_ | refine qK ?_ | refine qE ?_ | refine qW ?_ | refine qM ?_); try simp -dsimp (maxSteps := 2000000) (disch := first | omega | (simp only [qZ] <;> omega) | fail) only [push_cast, ↓qP, ↓reduceIte, Nat.reduceEqDiff, Nat.reduceAdd, Nat.reduceMul, Nat.reduceSub, Nat.reduceLeDiff, Int.reduceToNat, reduceCtorEq, f0, hb, he]) | (refine qA ?_ ?_; (first | omega | (simp only [qL]; omega) | (simp only [qD] at *; omega))))
      exact Pan.mk (h.pn (t := Re.zero) (s' := s'.fail 2) (by rw [hbr.out, hit1]) (fail_f _ (by decide)) (by decide) (by decide) (Kp.refl _ _))
    rw [decide_eq_false (by omega)] at he
    rw [if_neg (by omega), if_neg (by rw [hcl hi1]; simp)] at hit1
    clear hcl
    repeat (first | refine qS ?_ | refine qB ?_ | refine qT rfl ?_ | refine qF rfl ?_ | ((first | refine qR rfl ?_ | refine qK ?_ | refine qE ?_ | refine qW ?_ | refine qM ?_); try simp -dsimp (maxSteps := 2000000) (disch := first | omega | (simp only [qZ] <;> omega) | fail) only [push_cast, ↓qP, ↓reduceIte, Nat.reduceEqDiff, Nat.reduceAdd, Nat.reduceMul, Nat.reduceSub, Nat.reduceLeDiff, Int.reduceToNat, reduceCtorEq, f0, f3, hb, he]) | (refine qA ?_ ?_; (first | omega | (simp only [qL]; omega) | (simp only [qD] at *; omega))))
    refine CallV.of isCall_111 (item_any (set := set) h.rd (by rw [hr]; exact h.g) h.len ha (by omega) (hM.kp h.kp (fun e => ha e.symm)) hf rfl hi1 hl) ?_
    obtain ⟨q1, q2, q3, q4⟩ := item3_facts l s' set hi1
    have q5 := item3_more l s' set hi1 hf
    have q7 := item3_ok l s' set hi1
    rintro e w5 (⟨z1, rfl, h5, g5, k5⟩ | ⟨z1, j, rfl, j1, j2, k5⟩)
    case inr =>
      rw [if_pos z1] at hit1
      refine Sm.out ?_
      repeat (first | refine qS ?_ | refine qB ?_ | refine qT rfl ?_ | refine qF rfl ?_ | ((first | refine qR rfl ?_ | refine qK ?_ | refine qE ?_ | refine qW ?_ | refine qM ?_); try simp -dsimp (maxSteps := 2000000) (disch := first | omega | (simp only [qZ] <;> omega) | fail) only [push_cast, ↓qP, ↓reduceIte, Nat.reduceEqDiff, Nat.reduceAdd, Nat.reduceMul, Nat.reduceSub, Nat.reduceLeDiff, Int.reduceToNat, reduceCtorEq]) | (refine qA ?_ ?_; (first | omega | (simp only [qL]; omega) | (simp only [qD] at *; omega))))
      exact Pan.mk (h.pn (t := Re.zero) (by rw [hbr.out, hit1]) z1 j1 j2 (by rw [← hr]; exact k5))
    rw [if_neg (by rw [z1]; simp)] at hit1
    have q6 := q5 z1
    have q8 := (q7 z1).2.2
    rw [hr] at g5 k5
    rw [← q3] at h5
    have h6 := h.item (s' := (item3 l s' set).2.2) h5 g5 q4 k5
    clear h h5 g5 k5 q1 q2 q5 q7 hb he
    generalize item3 l s' set = r1 at *
    obtain ⟨⟨lo, single⟩, set1, s1⟩ := r1
    simp only at hit1 h6 q3 q4 z1 q6 q8 ⊢
    have hlo := lo.toNat_lt
    have hb := h6.rd.blk.rdc
    have hll : (l.drop s1.i).length = l.length - s1.i := by simp
    have e45 : (((byteAt l s1.i).toNat : Int) == 45) = (byteAt l s1.i == 45) := u8e _ 45
    have e93 : (((byteAt l (s1.i + 1)).toNat : Int) != 93) = !(byteAt l (s1.i + 1) == 93) := congrArg (! ·) (u8e (byteAt l (s1.i + 1)) 93)
    have hgg := getD_drop l s1.i 0
    have hgg1 := getD_drop l s1.i 1
    refine Sm.out ?_
    repeat (first | ((fail_if_success (first | refine qY (n := 10) ?_ | refine qV (n := 10) ?_)); refine qS ?_) | refine qB ?_ | refine qT rfl ?_ | refine qF rfl ?_ | ((first | refine qR rfl ?_ | refine qK ?_ | refine qE ?_ | refine qW ?_ | refine qM ?_); try simp -dsimp (maxSteps := 2000000) (disch := first | omega | (simp only [qZ] <;> omega) | fail) only [push_cast, ↓qP, ↓reduceIte, Nat.reduceEqDiff, Nat.reduceAdd, Nat.reduceMul, Nat.reduceSub, Nat.reduceLeDiff, Int.reduceToNat, reduceCtorEq, f0, f2, f3, f4]) | (refine qA ?_ ?_; (first | omega | (simp only [qL]; omega) | (simp only [qD] at *; omega))))
    refine Wp.cutQ (fun F W => F 0 = .pointer (some ⟨a, 0, none⟩) ∧ F 2 = .pointer (some ⟨r, 0, none⟩) ∧ F 3 = .pointer (some ⟨r + 1, 0, none⟩) ∧ F 4 = .bool (!nt) ∧ F 6 = .int .u8 (lo.toNat : Int) ∧ F 7 = .bool single ∧
      ∃ (hi' : UInt8) (s2 : S3), F 8 = .int .u8 (hi'.toNat : Int) ∧ S5 w a l s2 set1 W ∧ s2.f = 0 ∧ s2.i ≤ l.length ∧ s'.i < s2.i ∧ R = items3 l k false (if single then putR set1 lo.toNat hi'.toNat else set1) s2) ?_ ?_
    · have nodash : (decide ((s1.i : Int) + 1 < (l.length : Int)) && byteAt l s1.i == 45 && !(byteAt l (s1.i + 1) == 93)) = false → R = items3 l k false (if single then putR set1 lo.toNat lo.toNat else set1) s1 := by
        intro hd
        rw [if_neg (by rw [hd]; simp)] at hit1
        rw [hit1]
        cases single with
        | true => rw [if_pos rfl, if_pos rfl, putR_one (by rw [h6.len]; omega)]
        | false => rfl
      rcases Nat.lt_or_ge (s1.i + 1) l.length with hd1 | hd1
      case inr =>
        have g1 : decide ((l.length : Int) - (s1.i : Int) > 1) = false := decide_eq_false (by omega)
        have hnd := nodash (by rw [decide_eq_false (by omega : ¬ (s1.i : Int) + 1 < (l.length : Int))]; rfl)
        repeat (first | refine qS ?_ | refine qB ?_ | refine qT rfl ?_ | refine qF rfl ?_ | ((first | refine qR rfl ?_ | refine qK ?_ | refine qE ?_ | refine qW ?_ | refine qM ?_); try simp -dsimp (maxSteps := 2000000) (disch := first | omega | (simp only [qZ] <;> omega) | fail) only [push_cast, ↓qP, ↓reduceIte, Nat.reduceEqDiff, Nat.reduceAdd, Nat.reduceMul, Nat.reduceSub, Nat.reduceLeDiff, Int.reduceToNat, reduceCtorEq, f0, hb, hll, g1]) | (refine qA ?_ ?_; (first | omega | (simp only [qL]; omega) | (simp only [qD] at *; omega))))
        exact Mid.mk ⟨by simp [upd, f0], by simp [upd, f2], by simp [upd, f3], by simp [upd, f4], by simp [upd], by simp [upd], lo, s1, by simp [upd], h6, z1, q8, q6, hnd⟩
      have g1 : decide ((l.length : Int) - (s1.i : Int) > 1) = true := decide_eq_true (by omega)
      have g1' : decide ((s1.i : Int) + 1 < (l.length : Int)) = true := decide_eq_true (by omega)
      have hl1 : 1 < (l.drop s1.i).length := by omega
      cases c45 : byteAt l s1.i == 45 with
      | false =>
        have hnd := nodash (by rw [c45]; simp)
        rw [c45] at e45
        repeat (first | refine qS ?_ | refine qB ?_ | refine qT rfl ?_ | refine qF rfl ?_ | ((first | refine qR rfl ?_ | refine qK ?_ | refine qE ?_ | refine qW ?_ | refine qM ?_); try simp -dsimp (maxSteps := 2000000) (disch := first | omega | (simp only [qZ] <;> omega) | fail) only [push_cast, ↓qP, ↓reduceIte, Nat.reduceEqDiff, Nat.reduceAdd, Nat.reduceMul, Nat.reduceSub, Nat.reduceLeDiff, Int.reduceToNat, reduceCtorEq, f0, hb, hll, g1, hgg, e45]) | (refine qA ?_ ?_; (first | omega | (simp only [qL]; omega) | (simp only [qD] at *; omega))))
        exact Mid.mk ⟨by simp [upd, f0], by simp [upd, f2], by simp [upd, f3], by simp [upd, f4], by simp [upd], by simp [upd], lo, s1, by simp [upd], h6, z1, q8, q6, hnd⟩
      | true =>
      rw [c45] at e45
      cases c93 : byteAt l (s1.i + 1) == 93 with
      | true =>
        have hnd := nodash (by rw [c93]; simp)
        rw [c93] at e93
        repeat (first | refine qS ?_ | refine qB ?_ | refine qT rfl ?_ | refine qF rfl ?_ | ((first | refine qR rfl ?_ | refine qK ?_ | refine qE ?_ | refine qW ?_ | refine qM ?_); try simp -dsimp (maxSteps := 2000000) (disch := first | omega | (simp only [qZ] <;> omega) | fail) only [push_cast, ↓qP, ↓reduceIte, Nat.reduceEqDiff, Nat.reduceAdd, Nat.reduceMul, Nat.reduceSub, Nat.reduceLeDiff, Int.reduceToNat, reduceCtorEq, f0, hb, hll, g1, hgg, e45, hgg1, e93]) | (refine qA ?_ ?_; (first | omega | (simp only [qL]; omega) | (simp only [qD] at *; omega))))
        exact Mid.mk ⟨by simp [upd, f0], by simp [upd, f2], by simp [upd, f3], by simp [upd, f4], by simp [upd], by simp [upd], lo, s1, by simp [upd], h6, z1, q8, q6, hnd⟩
      | false =>
      clear nodash
      rw [c93] at e93
      rw [if_pos (by rw [g1', c45, c93]; rfl)] at hit1
      have hz := h6.rd.blk.fz
      have hlt6 := h6.rd.lt
      have hli : ((l.length : Int) - (s1.i : Int)).toNat = l.length - s1.i := by omega
      have hdd : (l.drop s1.i).drop 1 = l.drop (s1.i + 1) := by rw [List.drop_drop]
      have htt : ((l.drop (s1.i + 1)).take (l.length - s1.i - 1)) = l.drop (s1.i + 1) := List.take_of_length_le (by simp; omega)
      refine Sm.out ?_
      repeat (first | ((fail_if_success (first | refine qY (n := 12) ?_ | refine qV (n := 12) ?_)); refine qS ?_) | refine qB ?_ | refine qT rfl ?_ | refine qF rfl ?_ | ((first | refine qR rfl ?_ | refine qK ?_ | refine qE ?_ | refine qW ?_ | refine qM ?_); try simp -dsimp (maxSteps := 2000000) (disch := first | omega | (simp only [qZ] <;> omega) | fail) only [push_cast, ↓qP, ↓reduceIte, Nat.reduceEqDiff, Nat.reduceAdd, Nat.reduceMul, Nat.reduceSub, Nat.reduceLeDiff, Int.reduceToNat, reduceCtorEq, f0, hb, hz, hll, g1, hgg, e45, hgg1, e93, hli, hdd, htt]) | (refine qA ?_ ?_; (first | omega | (simp only [qL]; omega) | (simp only [qD] at *; omega))))
      have h7 : S5 w a l s1.on set1 (w5.setCell ⟨a, 0, none⟩ (.string (B (l.drop (s1.i + 1))))) := h6.keep (s' := s1.on) (h6.rd.blk.set 0 _) ((Kp.refl (· = a) w5).setCell (fun _ => rfl) _)
      refine Wp.gen (A := S5 w a l s1.on set1) h7 ?_
      clear h6 h7 hb hz hlt6
      intro W7 h7
      cases single with
      | false =>
        rw [if_pos (by rfl)] at hit1
        repeat (first | refine qS ?_ | refine qB ?_ | refine qT rfl ?_ | refine qF rfl ?_ | ((first | refine qR rfl ?_ | refine qK ?_ | refine qE ?_ | refine qW ?_ | refine qM ?_); try simp -dsimp (maxSteps := 2000000) (disch := first | omega | (simp only [qZ] <;> omega) | fail) only [push_cast, ↓qP, ↓reduceIte, Nat.reduceEqDiff, Nat.reduceAdd, Nat.reduceMul, Nat.reduceSub, Nat.reduceLeDiff, Int.reduceToNat, reduceCtorEq]) | (refine qA ?_ ?_; (first | omega | (simp only [qL]; omega) | (simp only [qD] at *; omega))))
        exact Pan.mk (h7.pn (t := Re.zero) (by rw [hbr.out, hit1]) (fail_f _ (by decide)) (by decide) (by decide) (Kp.refl _ _))
      | true =>
      rw [if_neg (by simp)] at hit1
      repeat (first | refine qS ?_ | refine qB ?_ | refine qT rfl ?_ | refine qF rfl ?_ | ((first | refine qR rfl ?_ | refine qK ?_ | refine qE ?_ | refine qW ?_ | refine qM ?_); try simp -dsimp (maxSteps := 2000000) (disch := first | omega | (simp only [qZ] <;> omega) | fail) only [push_cast, ↓qP, ↓reduceIte, Nat.reduceEqDiff, Nat.reduceAdd, Nat.reduceMul, Nat.reduceSub, Nat.reduceLeDiff, Int.reduceToNat, reduceCtorEq, f0]) | (refine qA ?_ ?_; (first | omega | (simp only [qL]; omega) | (simp only [qD] at *; omega))))
      refine OpV.of_run (zeros149 _ _ _ rfl) ?_
      refine Sm.out ?_
      repeat (first | refine qS ?_ | refine qB ?_ | refine qT rfl ?_ | refine qF rfl ?_ | ((first | refine qR rfl ?_ | refine qK ?_ | refine qE ?_ | refine qW ?_ | refine qM ?_); try simp -dsimp (maxSteps := 2000000) (disch := first | omega | (simp only [qZ] <;> omega) | fail) only [push_cast, ↓qP, ↓reduceIte, Nat.reduceEqDiff, Nat.reduceAdd, Nat.reduceMul, Nat.reduceSub, Nat.reduceLeDiff, Int.reduceToNat, reduceCtorEq, f0]) | (refine qA ?_ ?_; (first | omega | (simp only [qL]; omega) | (simp only [qD] at *; omega))))
      obtain ⟨g2, hg2⟩ : ∃ g2, g2 = W7.heap.size := ⟨_, rfl⟩
      have hnb : Blk (W7.alloc (.cells (List.replicate 256 (Value.bool false)).toArray 149)) g2 149 (bools noSet) := by
        have := Blk.new W7 149 (List.replicate 256 (Value.bool false))
        rw [bools_noSet, hg2]
        simpa using this
      have hsz7 : w.heap.size + 1 < g2 := by have := h7.g.lt; omega
      rw [← hg2]
      refine CallV.of isCall_111 (item_any (set := noSet) (h7.rd.alloc _) hnb rfl ha (by omega) ((hM.kp h7.kp (fun e => ha e.symm)).kp ((Kp.refl (fun _ => False) _).alloc _) id) z1 rfl hd1 hl) ?_
      obtain ⟨p1, p2, p3, p4⟩ := item3_facts l s1.on noSet hd1
      have p5 := item3_more l s1.on noSet hd1 z1
      have p7 := item3_ok l s1.on noSet hd1
      have kcv : ∀ {W8 : World}, Kp (fun b => b = a ∨ b = g2) (W7.alloc (.cells (List.replicate 256 (Value.bool false)).toArray 149)) W8 → Kp (· = a) W7 W8 := fun k => ((Kp.refl (· = a) W7).alloc _).trans' k (fun i hi e => by omega)
      rintro e w8 (⟨y1, rfl, h8, g8, k8⟩ | ⟨y1, j, rfl, j1, j2, k8⟩)
      case inr =>
        rw [if_pos y1] at hit1
        refine Sm.out ?_
        repeat (first | refine qS ?_ | refine qB ?_ | refine qT rfl ?_ | refine qF rfl ?_ | ((first | refine qR rfl ?_ | refine qK ?_ | refine qE ?_ | refine qW ?_ | refine qM ?_); try simp -dsimp (maxSteps := 2000000) (disch := first | omega | (simp only [qZ] <;> omega) | fail) only [push_cast, ↓qP, ↓reduceIte, Nat.reduceEqDiff, Nat.reduceAdd, Nat.reduceMul, Nat.reduceSub, Nat.reduceLeDiff, Int.reduceToNat, reduceCtorEq]) | (refine qA ?_ ?_; (first | omega | (simp only [qL]; omega) | (simp only [qD] at *; omega))))
        exact Pan.mk (h7.pn (t := Re.zero) (by rw [hbr.out, hit1]) y1 j1 j2 ((kcv k8).mono fun _ _ h => .inl h))
      rw [if_neg (by rw [y1]; simp)] at hit1
      have p6 := p5 y1
      have p8 := (p7 y1).2.2
      have h8' : Rd w8 a l (item3 l s1.on noSet).2.2.i (item3 l s1.on noSet).2.2.d := by rw [p3]; exact h8
      have h9 := h7.keep h8' (kcv k8)
      clear h7 h8 h8' g8 k8 kcv p1 p2 p3 p4 p5 p7 hnb
      have hson : s1.on.i = s1.i + 1 := rfl
      rw [hson] at p6
      generalize item3 l s1.on noSet = r2 at *
      obtain ⟨⟨hi2, one⟩, set2, s3⟩ := r2
      simp only at hit1 h9 y1 p6 p8 ⊢
      cases one with
      | false =>
        rw [if_pos (by simp)] at hit1
        refine Sm.out ?_
        repeat (first | refine qS ?_ | refine qB ?_ | refine qT rfl ?_ | refine qF rfl ?_ | ((first | refine qR rfl ?_ | refine qK ?_ | refine qE ?_ | refine qW ?_ | refine qM ?_); try simp -dsimp (maxSteps := 2000000) (disch := first | omega | (simp only [qZ] <;> omega) | fail) only [push_cast, ↓qP, ↓reduceIte, Nat.reduceEqDiff, Nat.reduceAdd, Nat.reduceMul, Nat.reduceSub, Nat.reduceLeDiff, Int.reduceToNat, reduceCtorEq]) | (refine qA ?_ ?_; (first | omega | (simp only [qL]; omega) | (simp only [qD] at *; omega))))
        exact Pan.mk (h9.pn (t := Re.zero) (by rw [hbr.out, hit1]) (fail_f _ (by decide)) (by decide) (by decide) (Kp.refl _ _))
      | true =>
      rcases Nat.lt_or_ge hi2.toNat lo.toNat with hq | hq
      · have c1 : decide ((hi2.toNat : Int) < (lo.toNat : Int)) = true := decide_eq_true (by omega)
        rw [if_pos (by rw [decide_eq_true (by omega : (lo.toNat : Int) > (hi2.toNat : Int))]; rfl)] at hit1
        refine Sm.out ?_
        repeat (first | refine qS ?_ | refine qB ?_ | refine qT rfl ?_ | refine qF rfl ?_ | ((first | refine qR rfl ?_ | refine qK ?_ | refine qE ?_ | refine qW ?_ | refine qM ?_); try simp -dsimp (maxSteps := 2000000) (disch := first | omega | (simp only [qZ] <;> omega) | fail) only [push_cast, ↓qP, ↓reduceIte, Nat.reduceEqDiff, Nat.reduceAdd, Nat.reduceMul, Nat.reduceSub, Nat.reduceLeDiff, Int.reduceToNat, reduceCtorEq, c1]) | (refine qA ?_ ?_; (first | omega | (simp only [qL]; omega) | (simp only [qD] at *; omega))))
        exact Pan.mk (h9.pn (t := Re.zero) (by rw [hbr.out, hit1]) (fail_f _ (by decide)) (by decide) (by decide) (Kp.refl _ _))
      · have c1 : decide ((hi2.toNat : Int) < (lo.toNat : Int)) = false := decide_eq_false (by omega)
        rw [if_neg (by rw [decide_eq_false (by omega : ¬ (lo.toNat : Int) > (hi2.toNat : Int))]; simp)] at hit1
        refine Sm.out ?_
        repeat (first | refine qS ?_ | refine qB ?_ | refine qT rfl ?_ | refine qF rfl ?_ | ((first | refine qR rfl ?_ | refine qK ?_ | refine qE ?_ | refine qW ?_ | refine qM ?_); try simp -dsimp (maxSteps := 2000000) (disch := first | omega | (simp only [qZ] <;> omega) | fail) only [push_cast, ↓qP, ↓reduceIte, Nat.reduceEqDiff, Nat.reduceAdd, Nat.reduceMul, Nat.reduceSub, Nat.reduceLeDiff, Int.reduceToNat, reduceCtorEq, c1]) | (refine qA ?_ ?_; (first | omega | (simp only [qL]; omega) | (simp only [qD] at *; omega))))
        exact Mid.mk ⟨by simp [upd, f0], by simp [upd, f2], by simp [upd, f3], by simp [upd, f4], by simp [upd], by simp [upd], hi2, s3, by simp [upd], h9, y1, p8, by omega, hit1⟩
    clear f0 f2 f3 f4 h6 hb hll e45 e93 hgg hgg1 hit1
    intro F W hMd
    obtain ⟨f0, f2, f3, f4, f6, f7, hi2, s3, f8, h6, y1, y2, y3, hit1⟩ := hMd.out
    clear hMd
    cases single with
    | false =>
      repeat (first | refine qS ?_ | refine qB ?_ | refine qT rfl ?_ | refine qF rfl ?_ | ((first | refine qR rfl ?_ | refine qK ?_ | refine qE ?_ | refine qW ?_ | refine qM ?_); try simp -dsimp (maxSteps := 2000000) (disch := first | omega | (simp only [qZ] <;> omega) | fail) only [push_cast, ↓qP, ↓reduceIte, Nat.reduceEqDiff, Nat.reduceAdd, Nat.reduceMul, Nat.reduceSub, Nat.reduceLeDiff, Int.reduceToNat, reduceCtorEq, f7]) | (refine qA ?_ ?_; (first | omega | (simp only [qL]; omega) | (simp only [qD] at *; omega))))
      exact Again.mk k ⟨by simp [upd, f0], by simp [upd, f2], by simp [upd, f3], by simp [upd, f4], false, set1, s3, by simp [upd], h6, y1, y2, by omega, ⟨hit1.symm⟩⟩ (by omega)
    | true =>
      repeat (first | refine qS ?_ | refine qB ?_ | refine qT rfl ?_ | refine qF rfl ?_ | ((first | refine qR rfl ?_ | refine qK ?_ | refine qE ?_ | refine qW ?_ | refine qM ?_); try simp -dsimp (maxSteps := 2000000) (disch := first | omega | (simp only [qZ] <;> omega) | fail) only [push_cast, ↓qP, ↓reduceIte, Nat.reduceEqDiff, Nat.reduceAdd, Nat.reduceMul, Nat.reduceSub, Nat.reduceLeDiff, Int.reduceToNat, reduceCtorEq, f7, f3, f6, f8]) | (refine qA ?_ ?_; (first | omega | (simp only [qL]; omega) | (simp only [qD] at *; omega))))
      refine CallV.of isCall_112 (put5_any (by rw [hr]; exact h6.g) h6.len lo hi2) ?_
      rintro _ w9 ⟨rfl, g9, k9⟩
      rw [hr] at g9 k9
      have h7 := h6.item (s' := s3) (h6.rd.keep k9 (fun e => by have := h6.lt; omega)) g9 (by rw [putR_len]) (k9.mono fun _ _ h => .inr h)
      refine Sm.out ?_
      repeat (first | refine qS ?_ | refine qB ?_ | refine qT rfl ?_ | refine qF rfl ?_ | ((first | refine qR rfl ?_ | refine qK ?_ | refine qE ?_ | refine qW ?_ | refine qM ?_); try simp -dsimp (maxSteps := 2000000) (disch := first | omega | (simp only [qZ] <;> omega) | fail) only [push_cast, ↓qP, ↓reduceIte, Nat.reduceEqDiff, Nat.reduceAdd, Nat.reduceMul, Nat.reduceSub, Nat.reduceLeDiff, Int.reduceToNat, reduceCtorEq]) | (refine qA ?_ ?_; (first | omega | (simp only [qL]; omega) | (simp only [qD] at *; omega))))
      exact Again.mk k ⟨by simp [upd, f0], by simp [upd, f2], by simp [upd, f3], by simp [upd, f4], false, _, s3, by simp [upd], h7, y1, y2, by omega, ⟨hit1.symm⟩⟩ (by omega)
  intro F W hMd
  obtain ⟨f2, f3, f4, set, s3, rfl, hf3, h⟩ := hMd.out
  clear hMd h1 hR
  have hrr := h.r.rdc
  have hrz := h.r.fz
  rw [← hr] at hrr hrz
  repeat (first | refine qS ?_ | refine qB ?_ | refine qT rfl ?_ | refine qF rfl ?_ | ((first | refine qR rfl ?_ | refine qK ?_ | refine qE ?_ | refine qW ?_ | refine qM ?_); try simp -dsimp (maxSteps := 2000000) (disch := first | omega | (simp only [qZ] <;> omega) | fail) only [push_cast, ↓qP, ↓reduceIte, Nat.reduceEqDiff, Nat.reduceAdd, Nat.reduceMul, Nat.reduceSub, Nat.reduceLeDiff, Int.reduceToNat, reduceCtorEq, f3, f4]) | (refine qA ?_ ?_; (first | omega | (simp only [qL]; omega) | (simp only [qD] at *; omega))))
  refine CallV.of isCall_105 (text_any (by rw [hr]; exact h.g) h.len (!nt)) ?_
  rintro _ w9 ⟨rfl, k9⟩
  rw [Bool.not_not]
  have h9 := h.keep (s' := s3) (h.rd.keep k9 id) (k9.mono fun _ _ h => h.elim)
  have hrr := h9.r.rdc
  have hrz := h9.r.fz
  have hlt9 := h9.r.lt
  rw [← hr] at hrr hrz hlt9
  refine Sm.out ?_
  repeat (first | refine qS ?_ | refine qB ?_ | refine qT rfl ?_ | refine qF rfl ?_ | ((first | refine qR rfl ?_ | refine qK ?_ | refine qE ?_ | refine qW ?_ | refine qM ?_); try simp -dsimp (maxSteps := 2000000) (disch := first | omega | (simp only [qZ] <;> omega) | fail) only [push_cast, ↓qP, ↓reduceIte, Nat.reduceEqDiff, Nat.reduceAdd, Nat.reduceMul, Nat.reduceSub, Nat.reduceLeDiff, Int.reduceToNat, reduceCtorEq, f2, hrr, hrz]) | (refine qA ?_ ?_; (first | omega | (simp only [qL]; omega) | (simp only [qD] at *; omega))))
  rw [hr]
  exact h9.out (x := bytesOf set nt) hbr hf3 (by simp [upd, f2, hr])
end
end Go.Proofs.Ytddichibegppjaa

/- The program's reader: joined. -/
namespace Go.Proofs.Ytddichibegppjaa
open Go Go.VC Go.RowKit

def joinT (op : List UInt8) : List Re → Re
  | [e] => e
  | es => .node op [] es 0 0
section
variable {w : World} {D D' : Nat → Prop} {es : List Re} {xs : List Value} {A : Option Addr} {n cap : Nat}
theorem joined_any (op : List UInt8) (ho : Own w 33 5 A n cap xs) (he : IsEl w D es xs) (hn : n = es.length) (hD : ∀ b, D b → b < w.heap.size) (hA : ∀ b, bk A = some b → b < w.heap.size) : Calls Try.prog 90 #[.string (B op), .slice A n cap] w fun e w' =>
    ∃ cs, e = .returned (.agg cs.toArray) ∧ IsRe w' (fun b => D b ∨ bk A = some b) (joinT op es) cs ∧ Kp (fun _ => False) w w' := by
  refine enter (n := 14) (args := [.string (B op), .slice A n cap]) Try.func90 rfl rfl rfl (by simp) ?_
  obtain ⟨q, hq⟩ : ∃ q, q = w.heap.size := ⟨_, rfl⟩
  have hb0 := Blk.new w 33 zRe
  have k0 : Kp (fun _ => False) w (w.alloc (.cells zRe.toArray 33)) := (Kp.refl _ w).alloc _
  refine Sm.out ?_
  repeat (first | ((fail_if_success (first | refine qY (n := 1) ?_ | refine qV (n := 1) ?_)); refine qS ?_) | refine qB ?_ | refine qT rfl ?_ | refine qF rfl ?_ | ((first | refine qR rfl ?_ | refine qK ?_ | refine qE ?_ | refine qW ?_ | refine qM ?_); try simp -dsimp (maxSteps := 2000000) (disch := first | omega | (simp only [qZ] <;> omega) | fail) only [push_cast, ↓qP, ↓reduceIte, Nat.reduceEqDiff, Nat.reduceAdd, Nat.reduceMul, Nat.reduceSub, Nat.reduceLeDiff, Int.reduceToNat, reduceCtorEq]) | (refine qA ?_ ?_; (first | omega | (simp only [qL]; omega) | (simp only [qD] at *; omega))))
  refine Wp.gen (w := w.alloc (.cells zRe.toArray 33)) (A := fun W => Kp (fun _ => False) w W ∧ Blk W q 33 zRe) ⟨k0, by rw [hq]; exact hb0⟩ ?_
  rw [← hq]
  clear hb0 k0
  rintro W ⟨k, hb⟩
  have ho2 := ho.Kp k (fun _ _ => id)
  have he2 := he.Kp (D' := D) k (fun _ _ => id) (fun _ h => h)
  have hrr := hb.rdc
  have hrz := hb.fz
  have hlt := hb.lt
  have fin : ∀ (F : Fr) (t : Re) (cs : List Value), F 4 = .pointer (some ⟨q, 0, none⟩) → IsRe W (fun b => D b ∨ bk A = some b) t cs →
      post Try.prog [.cell 4 33] (fun e w' => ∃ cs, e = .returned (.agg cs.toArray) ∧ IsRe w' (fun b => D b ∨ bk A = some b) t cs ∧ Kp (fun _ => False) w w') .mk .ret F (W.setCells q 0 cs) := by
    intro F t cs hF ht
    have h2 := (hb.setAll (vs := cs) ht.len).rdn
    rw [ht.len] at h2
    have hk : Kp (· = q) W (W.setCells q 0 cs) := (Kp.refl (· = q) W).setCells (fun _ => rfl) cs 0
    have hne : ∀ b, (D b ∨ bk A = some b) → b ≠ q := by
      rintro b (h | h)
      · have := hD b h; omega
      · have := hA b h; omega
    exact post_cell hF tk_33 h2 ⟨cs, rfl, ht.Kp hk hne (fun _ h => h), k.trans' hk (fun i hi e => by omega)⟩
  by_cases hone : n = 1
  · obtain ⟨e, rfl⟩ : ∃ e, es = [e] := by
      match es, hn with
      | [e], _ => exact ⟨e, rfl⟩
      | [], hn => simp at hn; omega
      | _ :: _ :: _, hn => simp at hn; omega
    obtain ⟨cs, ys, rfl, hre, hys⟩ := he2
    simp only [IsEl] at hys
    subst hys
    obtain ⟨o, se, A1, c1, c2, lo1, hi1', rfl⟩ := hre.form
    obtain ⟨g, rfl, hg, _⟩ := ho2.some (by omega)
    have hrd : ∀ j, j < 5 → rdc W g j = [.string (B o), .string (B se), .slice A1 c1 c2, .int .i64 lo1, .int .i64 hi1'][j]? := fun j hj => by
      rw [ho2.rdc j (by omega), List.append_nil]
    have c1' : ((n : Int) == 1) = true := by simp; omega
    clear ho ho2 he hn
    repeat (first | refine qS ?_ | refine qB ?_ | refine qT rfl ?_ | refine qF rfl ?_ | ((first | refine qR rfl ?_ | refine qK ?_ | refine qE ?_ | refine qW ?_ | refine qM ?_); try simp -dsimp (maxSteps := 2000000) (disch := first | omega | (simp only [qZ] <;> omega) | fail) only [push_cast, ↓qP, ↓reduceIte, Nat.reduceEqDiff, Nat.reduceAdd, Nat.reduceMul, Nat.reduceSub, Nat.reduceLeDiff, Int.reduceToNat, reduceCtorEq, c1', hrd, hrr, hrz]) | (refine qA ?_ ?_; (first | omega | (simp only [qL]; omega) | (simp only [qD] at *; omega))))
    exact fin _ e [.string (B o), .string (B se), .slice A1 c1 c2, .int .i64 lo1, .int .i64 hi1'] (by simp [upd]) (IsRe.keep (fun b hb => .inl hb) (fun b _ i n vs hr => hr) _ _ hre)
  · have c1' : ((n : Int) == 1) = false := by simp; omega
    have hm : joinT op es = .node op [] es 0 0 := by
      match es, hn with
      | [e], hn => simp at hn; omega
      | [], _ => rfl
      | _ :: _ :: _, _ => rfl
    rw [hm]
    repeat (first | refine qS ?_ | refine qB ?_ | refine qT rfl ?_ | refine qF rfl ?_ | ((first | refine qR rfl ?_ | refine qK ?_ | refine qE ?_ | refine qW ?_ | refine qM ?_); try simp -dsimp (maxSteps := 2000000) (disch := first | omega | (simp only [qZ] <;> omega) | fail) only [push_cast, ↓qP, ↓reduceIte, Nat.reduceEqDiff, Nat.reduceAdd, Nat.reduceMul, Nat.reduceSub, Nat.reduceLeDiff, Int.reduceToNat, reduceCtorEq, c1', hrr, hrz]) | (refine qA ?_ ?_; (first | omega | (simp only [qL]; omega) | (simp only [qD] at *; omega))))
    exact fin _ _ [.string (B op), .string (B []), .slice A n cap, .int .i64 0, .int .i64 0] (by simp [upd]) (own_kids ho2 he2 (fun b hb => .inl hb) (fun b hb => .inr hb) _ _ _ _)
end
end Go.Proofs.Ytddichibegppjaa

/- The program's reader: pieces. -/
namespace Go.Proofs.Ytddichibegppjaa
open Go Go.VC Go.RowKit

def EA (l : List UInt8) (a k : Nat) : Prop := ∀ s w, Rd w a l s.i s.d → St3 l s → s.f = 0 → s.i < l.length → MaxL w → (∃ r, atom3 l k s = some r) → Calls Try.prog 98 #[.pointer (some ⟨a, 0, none⟩)] w (OutG w a l (atom3 l k s))
def EP (l : List UInt8) (a k : Nat) : Prop := ∀ s w, Rd w a l s.i s.d → St3 l s → s.f = 0 → MaxL w → (∃ r, pieces3 l k s = some r) → Calls Try.prog 88 #[.pointer (some ⟨a, 0, none⟩)] w (OutG w a l (pieces3 l k s))
def EB (l : List UInt8) (a k : Nat) : Prop := ∀ s w, Rd w a l s.i s.d → St3 l s → s.f = 0 → MaxL w → (∃ r, branches3 l k s = some r) → Calls Try.prog 81 #[.pointer (some ⟨a, 0, none⟩)] w (OutG w a l (branches3 l k s))
abbrev rsO (l : List UInt8) (s : S3) : List Value := [.string (B (l.drop s.i)), .int .i64 s.d]

theorem more_off {l : List UInt8} {s : S3} (h : s.f ≠ 0) : more3 l s = false := by unfold more3; simp [h]
theorem more_eq {l : List UInt8} {s : S3} (h : s.f = 0) : more3 l s = decide (s.i < l.length) := by
  unfold more3; rw [h]; exact decide_eq_decide.2 (by omega)
theorem piece_off {l : List UInt8} {k : Nat} {es : List Re} {s : S3} {R : Option (List Re) × S3} (h : s.f ≠ 0) (hR : piece3 l k es s = some R) : R = (some es, s) := by
  cases k with
  | zero => simp [piece3] at hR
  | succ k => simp only [piece3, more_off h] at hR; simpa using hR.symm
theorem pieces_of {l : List UInt8} {k : Nat} {s : S3} {r : Option (List Re)} {s1 : S3} (hR : piece3 l k [] s = some (r, s1)) : ∃ t, pieces3 l (k + 1) s = some (t, s1) := by
  simp only [pieces3, hR]
  match r with
  | none => exact ⟨_, rfl⟩
  | some [] => exact ⟨_, rfl⟩
  | some [e] => exact ⟨_, rfl⟩
  | some (_ :: _ :: _) => exact ⟨_, rfl⟩
theorem pieces_join {l : List UInt8} {k : Nat} {s : S3} {es : List Re} {s1 : S3} (hR : piece3 l k [] s = some (some es, s1)) : pieces3 l (k + 1) s = some (joinT opCat es, s1) := by
  simp only [pieces3, hR]
  match es with
  | [] => rfl
  | [e] => rfl
  | _ :: _ :: _ => rfl
theorem reps_off {l : List UInt8} {k : Nat} {e : Re} {s : S3} {r : Re × S3} (hs : s.f = 0) (h : (repeat3 l s).2.f ≠ 0) (hr : reps3 l k e s = some r) : r.2.f ≠ 0 := by
  cases k with
  | zero => simp [reps3] at hr
  | succ k =>
    simp only [reps3] at hr
    rw [if_neg (by rw [hs]; simp)] at hr
    split at hr
    · injection hr with hr; rw [← hr]; exact h
    · cases k with
      | zero => simp [reps3] at hr
      | succ k =>
        simp only [reps3] at hr
        rw [if_pos h] at hr
        injection hr with hr; rw [← hr]; exact h

section
variable {a : Nat} {l : List UInt8} {s s' : S3} {w w1 w2 : World}
theorem post_oe {r : Option (Re × S3)} {t : Re} {cs : List Value} {F : Fr} {D : Nat → Prop} (hat : Rd w1 a l s'.i s'.d) (hb : Blk w1 w.heap.size 33 zRe) (hkp : Kp (· = a) w w1) (hlt : a < w.heap.size)
    (hr : r = some (t, s')) (hf : s'.f = 0) (hF : F 2 = .pointer (some ⟨w.heap.size, 0, none⟩)) (ht : IsRe w1 D t cs) (hD : ∀ b, D b → w.heap.size < b ∧ b < w1.heap.size) :
    post Try.prog [.cell 2 33] (OutG w a l r) .mk .ret F (w1.setCells w.heap.size 0 cs) := by
  have h2 := (hb.setAll (vs := cs) ht.len).rdn
  rw [ht.len] at h2
  have hk : Kp (· = w.heap.size) w1 (w1.setCells w.heap.size 0 cs) := (Kp.refl (· = w.heap.size) w1).setCells (fun _ => rfl) cs 0
  exact post_cell hF tk_33 h2 (.inl ⟨t, s', cs, hr, hf, rfl, ht.Kp hk (fun b hb e => by have := hD b hb; omega) (fun b hb => by have := hD b hb; have := hk.size; omega), Blk.farCells (Nat.ne_of_lt hlt) _ _ _ hat, Kp.setCells hkp (fun h' => absurd h' (Nat.lt_irrefl _)) _ _⟩)

theorem pieces_any (k : Nat) (hl : l.length ≤ 1000000) (ha : a ≠ 1) (ih : ∀ j, j < k → EA l a j) : EP l a k := by
  intro s w h hs hsf hM hex
  obtain ⟨k, rfl⟩ : ∃ k', k = k' + 1 := by
    cases k with
    | zero => obtain ⟨r, hr⟩ := hex; simp [pieces3] at hr
    | succ k => exact ⟨k, rfl⟩
  obtain ⟨R, hR⟩ : ∃ R, piece3 l k [] s = some R := by
    cases hp : piece3 l k [] s with
    | none => obtain ⟨r, hr⟩ := hex; simp [pieces3, hp] at hr
    | some R => exact ⟨R, rfl⟩
  clear hex
  have hbad : ∀ r s1, R = (r, s1) → ∃ t, pieces3 l (k + 1) s = some (t, s1) := fun r s1 e => pieces_of (by rw [hR, e])
  have hgood : ∀ es s1, R = (some es, s1) → pieces3 l (k + 1) s = some (joinT opCat es, s1) := fun es s1 e => pieces_join (by rw [hR, e])
  generalize pieces3 l (k + 1) s = T at *
  have hlt := h.lt
  refine enter (n := 66) (args := [.pointer (some ⟨a, 0, none⟩)]) Try.func88 rfl rfl rfl (by simp) ?_
  refine Sm.out ?_
  repeat (first | ((fail_if_success (first | refine qY (n := 2) ?_ | refine qV (n := 2) ?_)); refine qS ?_) | refine qB ?_ | refine qT rfl ?_ | refine qF rfl ?_ | ((first | refine qR rfl ?_ | refine qK ?_ | refine qE ?_ | refine qW ?_ | refine qM ?_); try simp -dsimp (maxSteps := 2000000) (disch := first | omega | (simp only [qZ] <;> omega) | fail) only [push_cast, ↓qP, ↓reduceIte, Nat.reduceEqDiff, Nat.reduceAdd, Nat.reduceMul, Nat.reduceSub, Nat.reduceLeDiff, Int.reduceToNat, reduceCtorEq]) | (refine qA ?_ ?_; (first | omega | (simp only [qL]; omega) | (simp only [qD] at *; omega))))
  refine Wp.cutQ (fun F' w' => F' 2 = .pointer (some ⟨w.heap.size, 0, none⟩) ∧ ∃ es s1 A n cap N, F' 3 = .slice A n cap ∧ R = (some es, s1) ∧ s1.f = 0 ∧ Lq w a (rsO l s1) es A n cap N w') ?_ ?_
  · repeat (first | refine qS ?_ | refine qB ?_ | refine qT rfl ?_ | refine qF rfl ?_ | ((first | refine qR rfl ?_ | refine qK ?_ | refine qE ?_ | refine qW ?_ | refine qM ?_); try simp -dsimp (maxSteps := 2000000) (disch := first | omega | (simp only [qZ] <;> omega) | fail) only [push_cast, ↓qP, ↓reduceIte, Nat.reduceEqDiff, Nat.reduceAdd, Nat.reduceMul, Nat.reduceSub, Nat.reduceLeDiff, Int.reduceToNat, reduceCtorEq]) | (refine qA ?_ ?_; (first | omega | (simp only [qL]; omega) | (simp only [qD] at *; omega))))
    refine CallV.of isCall_96 (peek_any (h.alloc _)) ?_
    rintro _ _ ⟨rfl, rfl⟩
    refine Sm.out ?_
    repeat (first | refine qS ?_ | refine qB ?_ | refine qT rfl ?_ | refine qF rfl ?_ | ((first | refine qR rfl ?_ | refine qK ?_ | refine qE ?_ | refine qW ?_ | refine qM ?_); try simp -dsimp (maxSteps := 2000000) (disch := first | omega | (simp only [qZ] <;> omega) | fail) only [push_cast, ↓qP, ↓reduceIte, Nat.reduceEqDiff, Nat.reduceAdd, Nat.reduceMul, Nat.reduceSub, Nat.reduceLeDiff, Int.reduceToNat, reduceCtorEq]) | (refine qA ?_ ?_; (first | omega | (simp only [qL]; omega) | (simp only [qD] at *; omega))))
    refine Wp.loop (α := Nat) (fun j F w2 => j ≤ k ∧ F 0 = .pointer (some ⟨a, 0, none⟩) ∧ F 2 = .pointer (some ⟨w.heap.size, 0, none⟩) ∧ ∃ es s1 A n cap N, F 3 = .slice A n cap ∧ F 4 = .int .u8 (if s1.i < l.length then ((byteAt l s1.i).toNat : Int) else 0) ∧ F 5 = .bool (decide (s1.i < l.length)) ∧
        Lq w a (rsO l s1) es A n cap N w2 ∧ St3 l s1 ∧ s1.f = 0 ∧ es.length ≤ s1.i ∧ Hide (piece3 l j es s1 = some R)) (fun j => j) k
      ⟨Nat.le_refl _, by simp [upd, arg], by simp [upd], [], s, none, 0, 0, w.heap.size + 1, by simp [upd], by simp [upd], by simp [upd], ⟨h.alloc _, Blk.new _ _ _, ⟨[], Own.nil _ _ _, rfl⟩, rfl, by simp [bk], (Kp.refl _ w).alloc _, hlt, by omega, by simp⟩, hs, hsf, Nat.zero_le _, ⟨hR⟩⟩ ?_
    clear h hs hR hsf
    rintro j F w2 ⟨hjk, f0, f2, es, s1, A, n, cap, N, f3, f4, f5, h1, hs, hf0, hei, hpc⟩
    obtain ⟨j, rfl⟩ : ∃ j', j = j' + 1 := by
      cases j with
      | zero => have := hpc.out; simp [piece3] at this
      | succ j => exact ⟨j, rfl⟩
    have hpc1 := hpc.out
    simp only [piece3, more_eq hf0] at hpc1
    clear hpc
    have hsi := hs.2.2.2 hf0
    rcases Nat.lt_or_ge s1.i l.length with hi1 | hi1
    case inr =>
      rw [if_neg (by omega : ¬ s1.i < l.length)] at f4
      rw [decide_eq_false (by omega : ¬ s1.i < l.length)] at f5 hpc1
      rw [if_neg (by simp)] at hpc1
      injection hpc1 with hpc1
      repeat (first | refine qS ?_ | refine qB ?_ | refine qT rfl ?_ | refine qF rfl ?_ | ((first | refine qR rfl ?_ | refine qK ?_ | refine qE ?_ | refine qW ?_ | refine qM ?_); try simp -dsimp (maxSteps := 2000000) (disch := first | omega | (simp only [qZ] <;> omega) | fail) only [push_cast, ↓qP, ↓reduceIte, Nat.reduceEqDiff, Nat.reduceAdd, Nat.reduceMul, Nat.reduceSub, Nat.reduceLeDiff, Int.reduceToNat, reduceCtorEq, f5]) | (refine qA ?_ ?_; (first | omega | (simp only [qL]; omega) | (simp only [qD] at *; omega))))
      exact Mid.mk ⟨by simp [upd, f2], es, s1, A, n, cap, N, by simp [upd, f3], hpc1.symm, hf0, h1⟩
    rw [if_pos hi1] at f4
    rw [decide_eq_true hi1] at f5 hpc1
    have e124 : (((byteAt l s1.i).toNat : Int) != 124) = !(byteAt l s1.i == 124) := congrArg (! ·) (u8e _ 124)
    have e41 : (((byteAt l s1.i).toNat : Int) != 41) = !(byteAt l s1.i == 41) := congrArg (! ·) (u8e _ 41)
    cases h124 : byteAt l s1.i == 124 with
    | true =>
      rw [h124] at e124 hpc1
      rw [if_neg (by simp)] at hpc1
      injection hpc1 with hpc1
      repeat (first | refine qS ?_ | refine qB ?_ | refine qT rfl ?_ | refine qF rfl ?_ | ((first | refine qR rfl ?_ | refine qK ?_ | refine qE ?_ | refine qW ?_ | refine qM ?_); try simp -dsimp (maxSteps := 2000000) (disch := first | omega | (simp only [qZ] <;> omega) | fail) only [push_cast, ↓qP, ↓reduceIte, Nat.reduceEqDiff, Nat.reduceAdd, Nat.reduceMul, Nat.reduceSub, Nat.reduceLeDiff, Int.reduceToNat, reduceCtorEq, f4, f5, e124]) | (refine qA ?_ ?_; (first | omega | (simp only [qL]; omega) | (simp only [qD] at *; omega))))
      exact Mid.mk ⟨by simp [upd, f2], es, s1, A, n, cap, N, by simp [upd, f3], hpc1.symm, hf0, h1⟩
    | false =>
    rw [h124] at e124 hpc1
    cases h41 : byteAt l s1.i == 41 with
    | true =>
      rw [h41] at e41 hpc1
      rw [if_neg (by simp)] at hpc1
      injection hpc1 with hpc1
      repeat (first | refine qS ?_ | refine qB ?_ | refine qT rfl ?_ | refine qF rfl ?_ | ((first | refine qR rfl ?_ | refine qK ?_ | refine qE ?_ | refine qW ?_ | refine qM ?_); try simp -dsimp (maxSteps := 2000000) (disch := first | omega | (simp only [qZ] <;> omega) | fail) only [push_cast, ↓qP, ↓reduceIte, Nat.reduceEqDiff, Nat.reduceAdd, Nat.reduceMul, Nat.reduceSub, Nat.reduceLeDiff, Int.reduceToNat, reduceCtorEq, f4, f5, e124, e41]) | (refine qA ?_ ?_; (first | omega | (simp only [qL]; omega) | (simp only [qD] at *; omega))))
      exact Mid.mk ⟨by simp [upd, f2], es, s1, A, n, cap, N, by simp [upd, f3], hpc1.symm, hf0, h1⟩
    | false =>
    rw [h41] at e41 hpc1
    rw [if_pos (by rfl)] at hpc1
    repeat (first | refine qS ?_ | refine qB ?_ | refine qT rfl ?_ | refine qF rfl ?_ | ((first | refine qR rfl ?_ | refine qK ?_ | refine qE ?_ | refine qW ?_ | refine qM ?_); try simp -dsimp (maxSteps := 2000000) (disch := first | omega | (simp only [qZ] <;> omega) | fail) only [push_cast, ↓qP, ↓reduceIte, Nat.reduceEqDiff, Nat.reduceAdd, Nat.reduceMul, Nat.reduceSub, Nat.reduceLeDiff, Int.reduceToNat, reduceCtorEq, f0, f4, f5, e124, e41]) | (refine qA ?_ ?_; (first | omega | (simp only [qL]; omega) | (simp only [qD] at *; omega))))
    refine CallV.of isCall_97 (repeat_any h1.at_ hf0 hsi hl) ?_
    obtain ⟨r1, r2, r3, r4, r5, r6⟩ := repeat3_ok l s1 hsi
    rintro e w4 (⟨q1, rfl, h2, k2⟩ | ⟨q1, x, rfl, x1, x2, k2⟩)
    case inr =>
      have hf2 : (if (repeat3 l s1).1.2.2 = true then (repeat3 l s1).2.fail 3 else (repeat3 l s1).2).f ≠ 0 := by
        split
        · exact fail_f _ (by decide)
        · exact q1
      rw [if_pos hf2] at hpc1
      injection hpc1 with hpc1
      obtain ⟨t, ht⟩ := hbad _ _ hpc1.symm
      refine Sm.out ?_
      repeat (first | refine qS ?_ | refine qB ?_ | refine qT rfl ?_ | refine qF rfl ?_ | ((first | refine qR rfl ?_ | refine qK ?_ | refine qE ?_ | refine qW ?_ | refine qM ?_); try simp -dsimp (maxSteps := 2000000) (disch := first | omega | (simp only [qZ] <;> omega) | fail) only [push_cast, ↓qP, ↓reduceIte, Nat.reduceEqDiff, Nat.reduceAdd, Nat.reduceMul, Nat.reduceSub, Nat.reduceLeDiff, Int.reduceToNat, reduceCtorEq]) | (refine qA ?_ ?_; (first | omega | (simp only [qL]; omega) | (simp only [qD] at *; omega))))
      exact Pan.mk (.inr ⟨t, _, ht, hf2, x, rfl, x1, x2, h1.kp.trans k2⟩)
    have h3 : Lq w a (rsO l (repeat3 l s1).2) es A n cap N w4 := h1.keep (rs' := rsO l (repeat3 l s1).2) (by show Rd w4 a l _ _; rw [r1]; exact h2) k2
    clear h1 h2 k2 r1 r2 r3 r4 r5
    generalize repeat3 l s1 = rp at *
    obtain ⟨⟨lo, hi, b⟩, s2⟩ := rp
    simp only at hpc1 h3 r6 q1 ⊢
    replace r6 : Hide _ := ⟨r6⟩
    cases b with
    | true =>
      rw [if_pos rfl, if_pos (fail_f _ (by decide))] at hpc1
      injection hpc1 with hpc1
      obtain ⟨t, ht⟩ := hbad _ _ hpc1.symm
      refine Sm.out ?_
      repeat (first | refine qS ?_ | refine qB ?_ | refine qT rfl ?_ | refine qF rfl ?_ | ((first | refine qR rfl ?_ | refine qK ?_ | refine qE ?_ | refine qW ?_ | refine qM ?_); try simp -dsimp (maxSteps := 2000000) (disch := first | omega | (simp only [qZ] <;> omega) | fail) only [push_cast, ↓qP, ↓reduceIte, Nat.reduceEqDiff, Nat.reduceAdd, Nat.reduceMul, Nat.reduceSub, Nat.reduceLeDiff, Int.reduceToNat, reduceCtorEq]) | (refine qA ?_ ?_; (first | omega | (simp only [qL]; omega) | (simp only [qD] at *; omega))))
      exact Pan.mk (.inr ⟨t, _, ht, fail_f _ (by decide), 3, rfl, by decide, by decide, h3.kp⟩)
    | false =>
    simp only [Bool.false_eq_true, if_false] at hpc1
    rw [if_neg (by rw [q1]; simp)] at hpc1
    obtain rfl : s2 = s1 := (r6.out rfl).resolve_right (by rw [q1]; simp)
    clear r6
    obtain ⟨⟨t, s1⟩, hat⟩ : ∃ p, atom3 l j s2 = some p := by
      cases hp : atom3 l j s2 with
      | none => rw [hp] at hpc1; cases hpc1
      | some p => exact ⟨p, rfl⟩
    rw [hat] at hpc1
    simp only [] at hpc1
    obtain ⟨m1, m2⟩ := (reads_ok l j).1 _ _ _ hs hf0 hi1 hat
    have hs1 := m1.st hs
    obtain ⟨⟨e', s3⟩, hR2⟩ : ∃ p, reps3 l (l.length + 2) t s1 = some p := by
      cases hp : reps3 l (l.length + 2) t s1 with
      | none => rw [hp] at hpc1; cases hpc1
      | some p => exact ⟨p, rfl⟩
    rw [hR2] at hpc1
    simp only [] at hpc1
    refine Sm.out ?_
    repeat (first | refine qS ?_ | refine qB ?_ | refine qT rfl ?_ | refine qF rfl ?_ | ((first | refine qR rfl ?_ | refine qK ?_ | refine qE ?_ | refine qW ?_ | refine qM ?_); try simp -dsimp (maxSteps := 2000000) (disch := first | omega | (simp only [qZ] <;> omega) | fail) only [push_cast, ↓qP, ↓reduceIte, Nat.reduceEqDiff, Nat.reduceAdd, Nat.reduceMul, Nat.reduceSub, Nat.reduceLeDiff, Int.reduceToNat, reduceCtorEq, f0]) | (refine qA ?_ ?_; (first | omega | (simp only [qL]; omega) | (simp only [qD] at *; omega))))
    refine CallV.of isCall_98 (ih j (by omega) s2 w4 h3.at_ hs hf0 hi1 (hM.kp h3.kp (fun e => ha e.symm)) ⟨_, hat⟩) ?_
    -- a fault within
    have hfault : s3.f ≠ 0 → ∃ t, T = some (t, s3) := fun hf => by
      have := piece_off hf hpc1
      exact hbad _ _ this
    rintro e w5 (⟨t', s1', cs, he, hf1, rfl, hre, h4, k4⟩ | ⟨t', s1', he, hf1, x, rfl, x1, x2, k4⟩)
    case inr =>
      rw [hat] at he
      injection he with he
      injection he with he1 he2
      subst he1; subst he2
      have hf3 : s3.f ≠ 0 := fun e => by
        obtain ⟨_, _, _, j4, _⟩ := reps3_ok l _ _ _ _ _ (fun h => absurd h hf1) hR2
        exact hf1 (j4 e).1
      obtain ⟨t2, ht2⟩ := hfault hf3
      refine Sm.out ?_
      repeat (first | refine qS ?_ | refine qB ?_ | refine qT rfl ?_ | refine qF rfl ?_ | ((first | refine qR rfl ?_ | refine qK ?_ | refine qE ?_ | refine qW ?_ | refine qM ?_); try simp -dsimp (maxSteps := 2000000) (disch := first | omega | (simp only [qZ] <;> omega) | fail) only [push_cast, ↓qP, ↓reduceIte, Nat.reduceEqDiff, Nat.reduceAdd, Nat.reduceMul, Nat.reduceSub, Nat.reduceLeDiff, Int.reduceToNat, reduceCtorEq]) | (refine qA ?_ ?_; (first | omega | (simp only [qL]; omega) | (simp only [qD] at *; omega))))
      exact Pan.mk (.inr ⟨t2, _, ht2, hf3, x, rfl, x1, x2, h3.kp.trans k4⟩)
    rw [hat] at he
    injection he with he
    injection he with he1 he2
    subst he1; subst he2
    have h5 := h3.keep (rs' := rsO l s1) h4 k4
    have hN2 := h3.N2
    clear h3 h4 k4 hat
    have hi1' : s1.i ≤ l.length := (m1.2.2 hf1).2.2
    obtain ⟨o, se, A1, c1, c2, lo1, hi1'', rfl⟩ := hre.form
    have hlta := h5.at_.lt
    have hltr := h5.r.lt
    refine Sm.out ?_
    repeat (first | ((fail_if_success (first | refine qY (n := 9) ?_ | refine qV (n := 9) ?_)); refine qS ?_) | refine qB ?_ | refine qT rfl ?_ | refine qF rfl ?_ | ((first | refine qR rfl ?_ | refine qK ?_ | refine qE ?_ | refine qW ?_ | refine qM ?_); try simp -dsimp (maxSteps := 2000000) (disch := first | omega | (simp only [qZ] <;> omega) | fail) only [push_cast, ↓qP, ↓reduceIte, Nat.reduceEqDiff, Nat.reduceAdd, Nat.reduceMul, Nat.reduceSub, Nat.reduceLeDiff, Int.reduceToNat, reduceCtorEq, f0, f2, f3]) | (refine qA ?_ ?_; (first | omega | (simp only [qL]; omega) | (simp only [qD] at *; omega))))
    have hqN := h5.N2
    obtain ⟨q, hq⟩ : ∃ q, q = w5.heap.size := ⟨_, rfl⟩
    rw [← hq]
    refine Wp.gen (w := (w5.alloc (.cells zRe.toArray 33)).setCells q 0 [.string (B o), .string (B se), .slice A1 c1 c2, .int .i64 lo1, .int .i64 hi1'']) (A := fun W => Lq w a (rsO l s1) es A n cap N W ∧ Blk W q 33 [.string (B o), .string (B se), .slice A1 c1 c2, .int .i64 lo1, .int .i64 hi1''] ∧ IsRe W (fun b => N ≤ b ∧ b < W.heap.size ∧ b ≠ q) t [.string (B o), .string (B se), .slice A1 c1 c2, .int .i64 lo1, .int .i64 hi1'']) ?_ ?_
    · have hk : Kp (· = q) w5 ((w5.alloc (.cells zRe.toArray 33)).setCells q 0 [.string (B o), .string (B se), .slice A1 c1 c2, .int .i64 lo1, .int .i64 hi1'']) := ((Kp.refl (· = q) w5).alloc _).setCells (fun _ => rfl) [.string (B o), .string (B se), .slice A1 c1 c2, .int .i64 lo1, .int .i64 hi1''] 0
      exact ⟨(h5.alloc _).setq (by omega) [.string (B o), .string (B se), .slice A1 c1 c2, .int .i64 lo1, .int .i64 hi1''], Blk.setAll (cs := zRe) (vs := [.string (B o), .string (B se), .slice A1 c1 c2, .int .i64 lo1, .int .i64 hi1'']) (by rw [hq]; exact Blk.new w5 33 zRe) rfl, hre.Kp hk (fun b hb e => by have := hb.2; omega) (fun b hb => ⟨by have := hb.1; omega, Nat.lt_of_lt_of_le hb.2 hk.size, by have := hb.2; omega⟩)⟩
    rw [hq]
    clear h5 hre hlta hltr
    rintro w6 ⟨h5, hbq, hre⟩
    generalize w5.heap.size = q at *
    subst hq
    refine Wp.cutQ (fun F W => F 0 = .pointer (some ⟨a, 0, none⟩) ∧ F 2 = .pointer (some ⟨w.heap.size, 0, none⟩) ∧ F 3 = .slice A n cap ∧ F 9 = .pointer (some ⟨q, 0, none⟩) ∧ s3.f = 0 ∧ ∃ cs, Lq w a (rsO l s3) es A n cap N W ∧ Blk W q 33 cs ∧ IsRe W (fun b => N ≤ b ∧ b < W.heap.size ∧ b ≠ q) e' cs) ?_ ?_
    · have hoff := fun h => hfault (reps_off hf1 h hR2)
      repeat (first | refine qS ?_ | refine qB ?_ | refine qT rfl ?_ | refine qF rfl ?_ | ((first | refine qR rfl ?_ | refine qK ?_ | refine qE ?_ | refine qW ?_ | refine qM ?_); try simp -dsimp (maxSteps := 2000000) (disch := first | omega | (simp only [qZ] <;> omega) | fail) only [push_cast, ↓qP, ↓reduceIte, Nat.reduceEqDiff, Nat.reduceAdd, Nat.reduceMul, Nat.reduceSub, Nat.reduceLeDiff, Int.reduceToNat, reduceCtorEq, f0, f2, f3]) | (refine qA ?_ ?_; (first | omega | (simp only [qL]; omega) | (simp only [qD] at *; omega))))
      refine CallV.of isCall_97 (repeat_any h5.at_ hf1 hi1' hl) ?_
      obtain ⟨r1, r2, r3, r4, r5, r6⟩ := repeat3_ok l s1 hi1'
      rintro e w7 (⟨q2, rfl, h6, k6⟩ | ⟨q2, x, rfl, x1, x2, k6⟩)
      case inr =>
        obtain ⟨t2, ht2⟩ := hoff q2
        refine Sm.out ?_
        repeat (first | refine qS ?_ | refine qB ?_ | refine qT rfl ?_ | refine qF rfl ?_ | ((first | refine qR rfl ?_ | refine qK ?_ | refine qE ?_ | refine qW ?_ | refine qM ?_); try simp -dsimp (maxSteps := 2000000) (disch := first | omega | (simp only [qZ] <;> omega) | fail) only [push_cast, ↓qP, ↓reduceIte, Nat.reduceEqDiff, Nat.reduceAdd, Nat.reduceMul, Nat.reduceSub, Nat.reduceLeDiff, Int.reduceToNat, reduceCtorEq]) | (refine qA ?_ ?_; (first | omega | (simp only [qL]; omega) | (simp only [qD] at *; omega))))
        exact Pan.mk (.inr ⟨t2, _, ht2, reps_off hf1 q2 hR2, x, rfl, x1, x2, h5.kp.trans k6⟩)
      have h7 : Lq w a (rsO l (repeat3 l s1).2) es A n cap N w7 := h5.keep (rs' := rsO l (repeat3 l s1).2) (by show Rd w7 a l _ _; rw [r1]; exact h6) k6
      have hbq2 := k6.Blk hbq (by have := h5.lt; have := h5.N1; omega)
      have hre2 := hre.Kp (D' := fun b => N ≤ b ∧ b < w7.heap.size ∧ b ≠ q) k6 (fun b hb e => by have := hb.1; have := h5.lt; have := h5.N1; omega) (fun b hb => ⟨hb.1, Nat.lt_of_lt_of_le hb.2.1 k6.size, hb.2.2⟩)
      clear h5 h6 k6 hbq hre hoff
      refine Sm.out ?_
      repeat (first | refine qS ?_ | refine qB ?_ | refine qT rfl ?_ | refine qF rfl ?_ | ((first | refine qR rfl ?_ | refine qK ?_ | refine qE ?_ | refine qW ?_ | refine qM ?_); try simp -dsimp (maxSteps := 2000000) (disch := first | omega | (simp only [qZ] <;> omega) | fail) only [push_cast, ↓qP, ↓reduceIte, Nat.reduceEqDiff, Nat.reduceAdd, Nat.reduceMul, Nat.reduceSub, Nat.reduceLeDiff, Int.reduceToNat, reduceCtorEq]) | (refine qA ?_ ?_; (first | omega | (simp only [qL]; omega) | (simp only [qD] at *; omega))))
      refine Wp.loop (α := Nat) (fun k F W => F 0 = .pointer (some ⟨a, 0, none⟩) ∧ F 2 = .pointer (some ⟨w.heap.size, 0, none⟩) ∧ F 3 = .slice A n cap ∧ F 9 = .pointer (some ⟨q, 0, none⟩) ∧ ∃ e1 s' cs, F 10 = .int .i64 (repeat3 l s').1.1 ∧ F 11 = .int .i64 (repeat3 l s').1.2.1 ∧ F 12 = .bool (repeat3 l s').1.2.2 ∧
          Lq w a (rsO l (repeat3 l s').2) es A n cap N W ∧ Blk W q 33 cs ∧ IsRe W (fun b => N ≤ b ∧ b < W.heap.size ∧ b ≠ q) e1 cs ∧ s'.f = 0 ∧ (repeat3 l s').2.f = 0 ∧ s'.i ≤ l.length ∧ Hide (reps3 l (k + 1) e1 s' = some (e', s3))) (fun k => k) (l.length + 1)
        ⟨by simp [upd, f0], by simp [upd, f2], by simp [upd, f3], by simp [upd], t, s1, _, by simp [upd], by simp [upd], by simp [upd], h7, hbq2, hre2, hf1, q2, hi1', ⟨hR2⟩⟩ ?_
      clear f0 f2 f3 h7 hbq2 hre2 m1 m2 hs1 hR2 hpc1 hs hf0 hi1 hsi q2 r1 r2 r3 r4 r5 r6 hf1 hi1' q1 f4 f5 hei
      rintro k F w8 ⟨f0, f2, f3, f9, e1, s', cs, f10, f11, f12, h7, hbq2, hre2, hf1, q2, hi1', hrep⟩
      have hrep1 := hrep.out
      simp only [reps3] at hrep1
      rw [if_neg (by rw [hf1]; simp)] at hrep1
      clear hrep
      obtain ⟨r1, r2, r3, r4, r5, r6⟩ := repeat3_ok l s' hi1'
      obtain ⟨o, se, A1, c1, c2, lo1, hi1'', rfl⟩ := hre2.form
      have hlta := h7.at_.lt
      have hltq := hbq2.lt
      clear r4 r5 r6
      generalize repeat3 l s' = rp at *
      obtain ⟨⟨lo, hi, b⟩, s4⟩ := rp
      simp only at hrep1 h7 f10 f11 f12 q2 r1 r3
      cases b with
      | false =>
        rw [if_pos (show (!false) = true from rfl)] at hrep1
        injection hrep1 with hrep1
        injection hrep1 with e1 e2
        subst e1; subst e2
        repeat (first | refine qS ?_ | refine qB ?_ | refine qT rfl ?_ | refine qF rfl ?_ | ((first | refine qR rfl ?_ | refine qK ?_ | refine qE ?_ | refine qW ?_ | refine qM ?_); try simp -dsimp (maxSteps := 2000000) (disch := first | omega | (simp only [qZ] <;> omega) | fail) only [push_cast, ↓qP, ↓reduceIte, Nat.reduceEqDiff, Nat.reduceAdd, Nat.reduceMul, Nat.reduceSub, Nat.reduceLeDiff, Int.reduceToNat, reduceCtorEq, f12]) | (refine qA ?_ ?_; (first | omega | (simp only [qL]; omega) | (simp only [qD] at *; omega))))
        exact Mid.mk ⟨by simp [upd, f0], by simp [upd, f2], by simp [upd, f3], by simp [upd, f9], q2, _, h7, hbq2, hre2⟩
      | true =>
      rw [if_neg (by simp)] at hrep1
      repeat (first | refine qS ?_ | refine qB ?_ | refine qT rfl ?_ | refine qF rfl ?_ | ((first | refine qR rfl ?_ | refine qK ?_ | refine qE ?_ | refine qW ?_ | refine qM ?_); try simp -dsimp (maxSteps := 2000000) (disch := first | omega | (simp only [qZ] <;> omega) | fail) only [push_cast, ↓qP, ↓reduceIte, Nat.reduceEqDiff, Nat.reduceAdd, Nat.reduceMul, Nat.reduceSub, Nat.reduceLeDiff, Int.reduceToNat, reduceCtorEq, f12, f0, f9, f10, f11, hbq2.rdc, hbq2.fz]) | (refine qA ?_ ?_; (first | omega | (simp only [qL]; omega) | (simp only [qD] at *; omega))))
      have hk9 : Kp (· = q) w8 ((w8.alloc (.cells [.string (B o), .string (B se), .slice A1 c1 c2, .int .i64 lo1, .int .i64 hi1''].toArray 33)).setCells q 0 [.string (B opRep), .string (B []), .slice (some ⟨w8.heap.size, 0, none⟩) 1 1, .int .i64 lo, .int .i64 hi]) := ((Kp.refl (· = q) w8).alloc _).setCells (fun _ => rfl) [.string (B opRep), .string (B []), .slice (some ⟨w8.heap.size, 0, none⟩) 1 1, .int .i64 lo, .int .i64 hi] 0
      have h9 : Lq w a (rsO l s4) es A n cap N ((w8.alloc (.cells [.string (B o), .string (B se), .slice A1 c1 c2, .int .i64 lo1, .int .i64 hi1''].toArray 33)).setCells q 0 [.string (B opRep), .string (B []), .slice (some ⟨w8.heap.size, 0, none⟩) 1 1, .int .i64 lo, .int .i64 hi]) := (h7.alloc _).setq hqN _
      have hbq9 : Blk ((w8.alloc (.cells [.string (B o), .string (B se), .slice A1 c1 c2, .int .i64 lo1, .int .i64 hi1''].toArray 33)).setCells q 0 [.string (B opRep), .string (B []), .slice (some ⟨w8.heap.size, 0, none⟩) 1 1, .int .i64 lo, .int .i64 hi]) q 33 [.string (B opRep), .string (B []), .slice (some ⟨w8.heap.size, 0, none⟩) 1 1, .int .i64 lo, .int .i64 hi] := Blk.setAll (hbq2.alloc _) rfl
      have hre9 := IsRe.one_kid (m := w8.heap.size) (c := 1) (op := opRep) (set := []) (lo := lo) (hi := hi) (D' := fun b => N ≤ b ∧ b < ((w8.alloc (.cells [.string (B o), .string (B se), .slice A1 c1 c2, .int .i64 lo1, .int .i64 hi1''].toArray 33)).setCells q 0 [.string (B opRep), .string (B []), .slice (some ⟨w8.heap.size, 0, none⟩) 1 1, .int .i64 lo, .int .i64 hi]).heap.size ∧ b ≠ q)
        (Blk.farCells (b := q) (Nat.ne_of_gt hltq) [.string (B opRep), .string (B []), .slice (some ⟨w8.heap.size, 0, none⟩) 1 1, .int .i64 lo, .int .i64 hi] 0 _ (Blk.new w8 33 [.string (B o), .string (B se), .slice A1 c1 c2, .int .i64 lo1, .int .i64 hi1'']))
        (hre2.Kp (D' := fun b => N ≤ b ∧ b < ((w8.alloc (.cells [.string (B o), .string (B se), .slice A1 c1 c2, .int .i64 lo1, .int .i64 hi1''].toArray 33)).setCells q 0 [.string (B opRep), .string (B []), .slice (some ⟨w8.heap.size, 0, none⟩) 1 1, .int .i64 lo, .int .i64 hi]).heap.size ∧ b ≠ q) hk9 (fun b hb => hb.2.2) (fun b hb => ⟨hb.1, Nat.lt_of_lt_of_le hb.2.1 hk9.size, hb.2.2⟩)) (fun b hb => hb)
        ⟨by have := h7.N2; omega, by have h := (Blk.farCells (b := q) (Nat.ne_of_gt hltq) [.string (B opRep), .string (B []), .slice (some ⟨w8.heap.size, 0, none⟩) 1 1, .int .i64 lo, .int .i64 hi] 0 _ (Blk.new w8 33 [.string (B o), .string (B se), .slice A1 c1 c2, .int .i64 lo1, .int .i64 hi1''])).lt; exact h, by omega⟩
      refine CallV.gen (A := fun W => Lq w a (rsO l s4) es A n cap N W ∧ Blk W q 33 [.string (B opRep), .string (B []), .slice (some ⟨w8.heap.size, 0, none⟩) 1 1, .int .i64 lo, .int .i64 hi] ∧ IsRe W (fun b => N ≤ b ∧ b < W.heap.size ∧ b ≠ q) (.node opRep [] [e1] lo hi) [.string (B opRep), .string (B []), .slice (some ⟨w8.heap.size, 0, none⟩) 1 1, .int .i64 lo, .int .i64 hi]) ⟨h9, hbq9, hre9⟩ ?_
      clear h9 hbq9 hre9 hk9 hre2 hbq2 h7 hltq hlta
      rintro w9 ⟨h7, hbq2, hre2⟩
      have r3' : s4.i ≤ l.length := r3
      obtain ⟨k, rfl⟩ : ∃ k', k = k' + 1 := by
        cases k with
        | zero => simp [reps3] at hrep1
        | succ k => exact ⟨k, rfl⟩
      refine CallV.of isCall_97 (repeat_any h7.at_ q2 r3' hl) ?_
      obtain ⟨t1, t2, t3, t4, t5, t6⟩ := repeat3_ok l s4 r3'
      rintro e w10 (⟨q3, rfl, h6, k6⟩ | ⟨q3, x, rfl, x1, x2, k6⟩)
      case inr =>
        have hf3 := reps_off q2 q3 hrep1
        obtain ⟨t2, ht2⟩ := hfault hf3
        refine Sm.out ?_
        repeat (first | refine qS ?_ | refine qB ?_ | refine qT rfl ?_ | refine qF rfl ?_ | ((first | refine qR rfl ?_ | refine qK ?_ | refine qE ?_ | refine qW ?_ | refine qM ?_); try simp -dsimp (maxSteps := 2000000) (disch := first | omega | (simp only [qZ] <;> omega) | fail) only [push_cast, ↓qP, ↓reduceIte, Nat.reduceEqDiff, Nat.reduceAdd, Nat.reduceMul, Nat.reduceSub, Nat.reduceLeDiff, Int.reduceToNat, reduceCtorEq]) | (refine qA ?_ ?_; (first | omega | (simp only [qL]; omega) | (simp only [qD] at *; omega))))
        exact Pan.mk (.inr ⟨t2, _, ht2, hf3, x, rfl, x1, x2, h7.kp.trans k6⟩)
      have h8 : Lq w a (rsO l (repeat3 l s4).2) es A n cap N w10 := h7.keep (rs' := rsO l (repeat3 l s4).2) (by show Rd w10 a l _ _; rw [t1]; exact h6) k6
      have hbq3 := k6.Blk hbq2 (by have := h7.lt; have := h7.N1; omega)
      have hre3 := hre2.Kp (D' := fun b => N ≤ b ∧ b < w10.heap.size ∧ b ≠ q) k6 (fun b hb e => by have := hb.1; have := h7.lt; have := h7.N1; omega) (fun b hb => ⟨hb.1, Nat.lt_of_lt_of_le hb.2.1 k6.size, hb.2.2⟩)
      refine Sm.out ?_
      repeat (first | refine qS ?_ | refine qB ?_ | refine qT rfl ?_ | refine qF rfl ?_ | ((first | refine qR rfl ?_ | refine qK ?_ | refine qE ?_ | refine qW ?_ | refine qM ?_); try simp -dsimp (maxSteps := 2000000) (disch := first | omega | (simp only [qZ] <;> omega) | fail) only [push_cast, ↓qP, ↓reduceIte, Nat.reduceEqDiff, Nat.reduceAdd, Nat.reduceMul, Nat.reduceSub, Nat.reduceLeDiff, Int.reduceToNat, reduceCtorEq]) | (refine qA ?_ ?_; (first | omega | (simp only [qL]; omega) | (simp only [qD] at *; omega))))
      exact Again.mk k ⟨by simp [upd, f0], by simp [upd, f2], by simp [upd, f3], by simp [upd, f9], _, s4, _, by simp [upd], by simp [upd], by simp [upd], h8, hbq3, hre3, q2, q3, r3', ⟨hrep1⟩⟩ (by omega)
    obtain ⟨j1, j2, j3, j4, j5⟩ := reps3_ok l _ _ _ _ _ (fun h => (m1.2.2 h).2.2) hR2
    have m3 : Mv l s1 s3 := ⟨j1, by have := hs1.2.2.1; have := hs1.2.1; omega, fun h => ⟨(j4 h).1, j3, (j4 h).2⟩⟩
    clear f0 f2 f3 h5 hbq hre
    intro F w7 hMd
    obtain ⟨f0, f2, f3, f9, hf3, cs, h5, hbq, hre⟩ := hMd.out
    clear hMd
    obtain ⟨xs, hown, hel⟩ := h5.own
    obtain ⟨o, se, A1, c1, c2, lo1, hi1'', rfl⟩ := hre.form
    have hlta := h5.at_.lt
    have hltq := hbq.lt
    have hn := h5.n
    have hs3 := m3.st hs1
    have hi3 := m3.2.2 hf3
    have hm2 := m2 hf1
    repeat (first | refine qS ?_ | refine qB ?_ | refine qT rfl ?_ | refine qF rfl ?_ | ((first | refine qR rfl ?_ | refine qK ?_ | refine qE ?_ | refine qW ?_ | refine qM ?_); try simp -dsimp (maxSteps := 2000000) (disch := first | omega | (simp only [qZ] <;> omega) | fail) only [push_cast, ↓qP, ↓reduceIte, Nat.reduceEqDiff, Nat.reduceAdd, Nat.reduceMul, Nat.reduceSub, Nat.reduceLeDiff, Int.reduceToNat, reduceCtorEq, f0, f2, f3, f9, hbq.rdc]) | (refine qA ?_ ?_; (first | omega | (simp only [qL]; omega) | (simp only [qD] at *; omega))))
    refine V_append (m := 1) _ _ _ rfl mk_31 rfl (hown.alloc _) rfl [.string (B o), .string (B se), .slice A1 c1 c2, .int .i64 lo1, .int .i64 hi1''] ?r rfl (by omega) (by omega) ?kk
    case r => simp -dsimp (maxSteps := 2000000) (disch := first | omega | (simp only [qZ] <;> omega) | fail) only [push_cast, ↓qP, ↓reduceIte, Nat.reduceEqDiff, Nat.reduceAdd, Nat.reduceMul, Nat.reduceSub, Nat.reduceLeDiff, Int.reduceToNat, reduceCtorEq]
    case kk =>
      intro A' cap' w8 hown' hgrow hat
      have h9 := h5.append hown hel (IsRe.keep (fun b hb => ⟨hb.1, hb.2.1⟩) (fun b _ i n vs hr => hr) _ _ hre) hown' hgrow hat
      refine Sm.out ?_
      repeat (first | refine qS ?_ | refine qB ?_ | refine qT rfl ?_ | refine qF rfl ?_ | ((first | refine qR rfl ?_ | refine qK ?_ | refine qE ?_ | refine qW ?_ | refine qM ?_); try simp -dsimp (maxSteps := 2000000) (disch := first | omega | (simp only [qZ] <;> omega) | fail) only [push_cast, ↓qP, ↓reduceIte, Nat.reduceEqDiff, Nat.reduceAdd, Nat.reduceMul, Nat.reduceSub, Nat.reduceLeDiff, Int.reduceToNat, reduceCtorEq, f0, f2, f3, f9]) | (refine qA ?_ ?_; (first | omega | (simp only [qL]; omega) | (simp only [qD] at *; omega))))
      refine CallV.of isCall_96 (peek_any h9.at_) ?_
      rintro _ _ ⟨rfl, rfl⟩
      refine Sm.out ?_
      repeat (first | refine qS ?_ | refine qB ?_ | refine qT rfl ?_ | refine qF rfl ?_ | ((first | refine qR rfl ?_ | refine qK ?_ | refine qE ?_ | refine qW ?_ | refine qM ?_); try simp -dsimp (maxSteps := 2000000) (disch := first | omega | (simp only [qZ] <;> omega) | fail) only [push_cast, ↓qP, ↓reduceIte, Nat.reduceEqDiff, Nat.reduceAdd, Nat.reduceMul, Nat.reduceSub, Nat.reduceLeDiff, Int.reduceToNat, reduceCtorEq, f0]) | (refine qA ?_ ?_; (first | omega | (simp only [qL]; omega) | (simp only [qD] at *; omega))))
      exact Again.mk j ⟨by omega, by simp [upd, f0], by simp [upd, f2], es ++ [e'], s3, A', n + 1, cap', _, by simp [upd], by simp [upd], by simp [upd], h9, hs3, hf3, by simp; omega, ⟨hpc1⟩⟩ (by omega)
  clear h hs hR
  intro F w1 hMd
  obtain ⟨f2, es, s1, A, n, cap, N, f3, hRe, hf1, h1⟩ := hMd.out
  clear hMd
  obtain ⟨xs, hown, hel⟩ := h1.own
  repeat (first | refine qS ?_ | refine qB ?_ | refine qT rfl ?_ | refine qF rfl ?_ | ((first | refine qR rfl ?_ | refine qK ?_ | refine qE ?_ | refine qW ?_ | refine qM ?_); try simp -dsimp (maxSteps := 2000000) (disch := first | omega | (simp only [qZ] <;> omega) | fail) only [push_cast, ↓qP, ↓reduceIte, Nat.reduceEqDiff, Nat.reduceAdd, Nat.reduceMul, Nat.reduceSub, Nat.reduceLeDiff, Int.reduceToNat, reduceCtorEq, f2, f3]) | (refine qA ?_ ?_; (first | omega | (simp only [qL]; omega) | (simp only [qD] at *; omega))))
  refine CallV.of isCall_90 (joined_any opCat hown hel h1.n (fun b hb => by have := hb.2.1; have := h1.N2; omega) (fun b hb => hown.lt hb)) ?_
  rintro _ w2 ⟨cs, rfl, hre, k2⟩
  have h2 := h1.keep (rs' := rsO l s1) (k2.Blk h1.at_ id) (k2.mono fun _ _ h => h.elim)
  have hltr := h2.r.lt
  have hrr := h2.r.rdc
  have hrz := h2.r.fz
  have hN := h2.N1
  obtain ⟨o, se, A1, c1, c2, lo1, hi1', rfl⟩ := hre.form
  refine Sm.out ?_
  repeat (first | refine qS ?_ | refine qB ?_ | refine qT rfl ?_ | refine qF rfl ?_ | ((first | refine qR rfl ?_ | refine qK ?_ | refine qE ?_ | refine qW ?_ | refine qM ?_); try simp -dsimp (maxSteps := 2000000) (disch := first | omega | (simp only [qZ] <;> omega) | fail) only [push_cast, ↓qP, ↓reduceIte, Nat.reduceEqDiff, Nat.reduceAdd, Nat.reduceMul, Nat.reduceSub, Nat.reduceLeDiff, Int.reduceToNat, reduceCtorEq, f2, hrr, hrz]) | (refine qA ?_ ?_; (first | omega | (simp only [qL]; omega) | (simp only [qD] at *; omega))))
  exact post_oe (w1 := w2) (cs := [.string (B o), .string (B se), .slice A1 c1 c2, .int .i64 lo1, .int .i64 hi1']) h2.at_ h2.r h2.kp h2.lt (hgood _ _ hRe) hf1 (by simp [upd, f2]) hre (fun b hb => by
    have := h2.N2
    rcases hb with hb | hb
    · exact ⟨hb.1, by have := hb.2.1; omega⟩
    · have := h1.fresh b hb; exact ⟨this.1, by omega⟩)
end
end Go.Proofs.Ytddichibegppjaa

/- The reference's reader of expressions: pieces. -/
namespace Go.Proofs.Ytddichibegppjaa
open Go Go.VC

def CA (l : List UInt8) (a k : Nat) : Prop := ∀ s w, At3 w a l s → St3 l s → s.f = 0 → s.i < l.length → (∃ r, atom3 l k s = some r) → Calls Try.prog 85 #[.pointer (some ⟨a, 0, none⟩)] w (OutRe w a l (atom3 l k s))
def CP (l : List UInt8) (a k : Nat) : Prop := ∀ s w, At3 w a l s → St3 l s → (∃ r, pieces3 l k s = some r) → Calls Try.prog 70 #[.pointer (some ⟨a, 0, none⟩)] w (OutRe w a l (pieces3 l k s))
def CB (l : List UInt8) (a k : Nat) : Prop := ∀ s w, At3 w a l s → St3 l s → (∃ r, branches3 l k s = some r) → Calls Try.prog 49 #[.pointer (some ⟨a, 0, none⟩)] w (OutRe w a l (branches3 l k s))

theorem post_out {w w1 : World} {a : Nat} {l : List UInt8} {s' : S3} {r : Option (Re × S3)} {t : Re} {cs : List Value} {F : Fr} {D : Nat → Prop} (hat : At3 w1 a l s') (hb : Blk w1 w.heap.size 33 zRe) (hkp : Kp (· = a) w w1) (hlt : a < w.heap.size)
    (hr : r = some (t, s')) (hF : F 2 = .pointer (some ⟨w.heap.size, 0, none⟩)) (ht : IsRe w1 D t cs) (hD : ∀ b, D b → w.heap.size < b ∧ b < w1.heap.size) :
    post Try.prog [.cell 2 33] (OutRe w a l r) .mk .ret F (w1.setCells w.heap.size 0 cs) := by
  have h2 := (hb.setAll (vs := cs) ht.len).rdn
  rw [ht.len] at h2
  have hk : Kp (· = w.heap.size) w1 (w1.setCells w.heap.size 0 cs) := (Kp.refl (· = w.heap.size) w1).setCells (fun _ => rfl) cs 0
  exact post_cell hF tk_33 h2 ⟨t, s', cs, hr, rfl, ht.Kp hk (fun b hb e => by have := hD b hb; omega) (fun b hb => by have := hD b hb; have := hk.size; omega), Blk.farCells (Nat.ne_of_lt hlt) _ _ _ hat, Kp.setCells hkp (fun h' => absurd h' (Nat.lt_irrefl _)) _ _⟩

section
variable {a : Nat} {l : List UInt8} {s s' : S3} {w w1 w2 : World}

theorem pieces3_any (k : Nat) (hl : l.length ≤ 1000000) (ih : ∀ j, j < k → CA l a j) : CP l a k := by
  intro s w h hs hex
  obtain ⟨k, rfl⟩ : ∃ k', k = k' + 1 := by
    cases k with
    | zero => obtain ⟨r, hr⟩ := hex; simp [pieces3] at hr
    | succ k => exact ⟨k, rfl⟩
  have hps : pieces3 l (k + 1) s = match piece3 l k [] s with
    | none => none
    | some (none, s1) => some (Re.zero, s1)
    | some (some [e], s1) => some (e, s1)
    | some (some es, s1) => some (.node opCat [] es 0 0, s1) := by simp only [pieces3]; rfl
  rw [hps] at hex ⊢
  obtain ⟨R, hR⟩ : ∃ R, piece3 l k [] s = some R := by
    cases hp : piece3 l k [] s with
    | none => rw [hp] at hex; obtain ⟨r, hr⟩ := hex; cases hr
    | some R => exact ⟨R, rfl⟩
  rw [hR]
  clear hex hps
  have hlt := h.lt
  refine enter (n := 67) (args := [.pointer (some ⟨a, 0, none⟩)]) Try.func70 rfl rfl rfl (by simp) ?_
  refine Wp.seq (Wp.region rfl ?_)
  simp -dsimp (maxSteps := 2000000) (disch := first | omega | (simp only [qZ] <;> omega) | fail) only [push_cast, ↓qP, ↓reduceIte, Nat.reduceEqDiff, Nat.reduceAdd, Nat.reduceMul, Nat.reduceSub, Nat.reduceLeDiff, Int.reduceToNat, reduceCtorEq]
  refine Wp.seq (Wp.region rfl ?_)
  simp -dsimp (maxSteps := 2000000) (disch := first | omega | (simp only [qZ] <;> omega) | fail) only [push_cast, ↓qP, ↓reduceIte, Nat.reduceEqDiff, Nat.reduceAdd, Nat.reduceMul, Nat.reduceSub, Nat.reduceLeDiff, Int.reduceToNat, reduceCtorEq]
  refine Wp.cutQ (fun F' w' => F' 2 = .pointer (some ⟨w.heap.size, 0, none⟩) ∧ ∃ es s1 A n cap N, F' 3 = .slice A n cap ∧ R = (some es, s1) ∧ Ls w a l s1 es A n cap N w') ?_ ?_
  · repeat (first | refine qS ?_ | refine qB ?_ | refine qT rfl ?_ | refine qF rfl ?_ | ((first | refine qR rfl ?_ | refine qK ?_ | refine qE ?_ | refine qW ?_ | refine qM ?_); try simp -dsimp (maxSteps := 2000000) (disch := first | omega | (simp only [qZ] <;> omega) | fail) only [push_cast, ↓qP, ↓reduceIte, Nat.reduceEqDiff, Nat.reduceAdd, Nat.reduceMul, Nat.reduceSub, Nat.reduceLeDiff, Int.reduceToNat, reduceCtorEq]) | (refine qA ?_ ?_; (first | omega | (simp only [qL]; omega) | (simp only [qD] at *; omega))))
    refine Wp.loop (α := Nat) (fun j F w2 => j ≤ k ∧ F 0 = .pointer (some ⟨a, 0, none⟩) ∧ F 2 = .pointer (some ⟨w.heap.size, 0, none⟩) ∧ ∃ es s1 A n cap N, F 3 = .slice A n cap ∧ Ls w a l s1 es A n cap N w2 ∧ St3 l s1 ∧ (s1.f = 0 → es.length ≤ s1.i) ∧ Hide (piece3 l j es s1 = some R)) (fun j => j) k
      ⟨Nat.le_refl _, by simp [upd, arg], by simp [upd], [], s, none, 0, 0, w.heap.size + 1, by simp [upd], ⟨h.alloc _, Blk.new _ _ _, ⟨[], Own.nil _ _ _, rfl⟩, rfl, by simp [bk], (Kp.refl _ w).alloc _, hlt, by omega, by simp⟩, hs, fun _ => Nat.zero_le _, ⟨hR⟩⟩ ?_
    clear h hs hR
    rintro j F w2 ⟨hjk, f0, f2, es, s1, A, n, cap, N, f3, h1, hs, hei, hpc⟩
    obtain ⟨j, rfl⟩ : ∃ j', j = j' + 1 := by
      cases j with
      | zero => have := hpc.out; simp [piece3] at this
      | succ j => exact ⟨j, rfl⟩
    have hpc1 := hpc.out
    simp only [piece3] at hpc1
    clear hpc
    have e124 : (((byteAt l s1.i).toNat : Int) != 124) = !(byteAt l s1.i == 124) := congrArg (! ·) (u8_eq' _ 124)
    have e41 : (((byteAt l s1.i).toNat : Int) != 41) = !(byteAt l s1.i == 41) := congrArg (! ·) (u8_eq' _ 41)
    refine Wp.cutQ (fun F w4 => F 0 = .pointer (some ⟨a, 0, none⟩) ∧ F 2 = .pointer (some ⟨w.heap.size, 0, none⟩) ∧ F 3 = .slice A n cap ∧ Ls w a l s1 es A n cap N w4 ∧ (more3 l s1 && !byteAt l s1.i == 124 && !byteAt l s1.i == 41) = true) ?_ ?_
    · repeat (first | refine qS ?_ | refine qB ?_ | refine qT rfl ?_ | refine qF rfl ?_ | ((first | refine qR rfl ?_ | refine qK ?_ | refine qE ?_ | refine qW ?_ | refine qM ?_); try simp -dsimp (maxSteps := 2000000) (disch := first | omega | (simp only [qZ] <;> omega) | fail) only [push_cast, ↓qP, ↓reduceIte, Nat.reduceEqDiff, Nat.reduceAdd, Nat.reduceMul, Nat.reduceSub, Nat.reduceLeDiff, Int.reduceToNat, reduceCtorEq, f0]) | (refine qA ?_ ?_; (first | omega | (simp only [qL]; omega) | (simp only [qD] at *; omega))))
      refine CallV.of isCall_71 (more3_any h1.at_) ?_
      rintro _ _ ⟨rfl, rfl⟩
      rcases Bool.eq_false_or_eq_true (more3 l s1) with hm | hm
      · obtain ⟨hf0, hlt1⟩ := (more3_iff l s1).1 hm
        refine Sm.out ?_
        repeat (first | refine qS ?_ | refine qB ?_ | refine qT rfl ?_ | refine qF rfl ?_ | ((first | refine qR rfl ?_ | refine qK ?_ | refine qE ?_ | refine qW ?_ | refine qM ?_); try simp -dsimp (maxSteps := 2000000) (disch := first | omega | (simp only [qZ] <;> omega) | fail) only [push_cast, ↓qP, ↓reduceIte, Nat.reduceEqDiff, Nat.reduceAdd, Nat.reduceMul, Nat.reduceSub, Nat.reduceLeDiff, Int.reduceToNat, reduceCtorEq, f0, hm]) | (refine qA ?_ ?_; (first | omega | (simp only [qL]; omega) | (simp only [qD] at *; omega))))
        refine CallV.of isCall_72 (peek3 h1.at_.drew hlt1) ?_
        rintro _ _ ⟨rfl, rfl⟩
        rcases Bool.eq_false_or_eq_true (!byteAt l s1.i == 124) with h124 | h124
        · refine Sm.out ?_
          repeat (first | refine qS ?_ | refine qB ?_ | refine qT rfl ?_ | refine qF rfl ?_ | ((first | refine qR rfl ?_ | refine qK ?_ | refine qE ?_ | refine qW ?_ | refine qM ?_); try simp -dsimp (maxSteps := 2000000) (disch := first | omega | (simp only [qZ] <;> omega) | fail) only [push_cast, ↓qP, ↓reduceIte, Nat.reduceEqDiff, Nat.reduceAdd, Nat.reduceMul, Nat.reduceSub, Nat.reduceLeDiff, Int.reduceToNat, reduceCtorEq, f0, e124, h124]) | (refine qA ?_ ?_; (first | omega | (simp only [qL]; omega) | (simp only [qD] at *; omega))))
          refine CallV.of isCall_72 (peek3 h1.at_.drew.drew hlt1) ?_
          rintro _ _ ⟨rfl, rfl⟩
          rcases Bool.eq_false_or_eq_true (!byteAt l s1.i == 41) with h41 | h41
          · refine Sm.out ?_
            repeat (first | refine qS ?_ | refine qB ?_ | refine qT rfl ?_ | refine qF rfl ?_ | ((first | refine qR rfl ?_ | refine qK ?_ | refine qE ?_ | refine qW ?_ | refine qM ?_); try simp -dsimp (maxSteps := 2000000) (disch := first | omega | (simp only [qZ] <;> omega) | fail) only [push_cast, ↓qP, ↓reduceIte, Nat.reduceEqDiff, Nat.reduceAdd, Nat.reduceMul, Nat.reduceSub, Nat.reduceLeDiff, Int.reduceToNat, reduceCtorEq, f0, e41, h41]) | (refine qA ?_ ?_; (first | omega | (simp only [qL]; omega) | (simp only [qD] at *; omega))))
            exact Mid.mk ⟨by simp [upd, f0], by simp [upd, f2], by simp [upd, f3], h1.drew.drew.drew, by rw [hm, h124, h41]; rfl⟩
          · rw [if_neg (by rw [hm, h124, h41]; simp)] at hpc1
            refine Sm.out ?_
            repeat (first | refine qS ?_ | refine qB ?_ | refine qT rfl ?_ | refine qF rfl ?_ | ((first | refine qR rfl ?_ | refine qK ?_ | refine qE ?_ | refine qW ?_ | refine qM ?_); try simp -dsimp (maxSteps := 2000000) (disch := first | omega | (simp only [qZ] <;> omega) | fail) only [push_cast, ↓qP, ↓reduceIte, Nat.reduceEqDiff, Nat.reduceAdd, Nat.reduceMul, Nat.reduceSub, Nat.reduceLeDiff, Int.reduceToNat, reduceCtorEq, f0, e41, h41]) | (refine qA ?_ ?_; (first | omega | (simp only [qL]; omega) | (simp only [qD] at *; omega))))
            exact Mid.mk ⟨by simp [upd, f2], es, s1, A, n, cap, N, by simp [upd, f3], by injection hpc1 with hpc1; exact hpc1.symm, h1.drew.drew.drew⟩
        · rw [if_neg (by rw [hm, h124]; simp)] at hpc1
          refine Sm.out ?_
          repeat (first | refine qS ?_ | refine qB ?_ | refine qT rfl ?_ | refine qF rfl ?_ | ((first | refine qR rfl ?_ | refine qK ?_ | refine qE ?_ | refine qW ?_ | refine qM ?_); try simp -dsimp (maxSteps := 2000000) (disch := first | omega | (simp only [qZ] <;> omega) | fail) only [push_cast, ↓qP, ↓reduceIte, Nat.reduceEqDiff, Nat.reduceAdd, Nat.reduceMul, Nat.reduceSub, Nat.reduceLeDiff, Int.reduceToNat, reduceCtorEq, f0, e124, h124]) | (refine qA ?_ ?_; (first | omega | (simp only [qL]; omega) | (simp only [qD] at *; omega))))
          exact Mid.mk ⟨by simp [upd, f2], es, s1, A, n, cap, N, by simp [upd, f3], by injection hpc1 with hpc1; exact hpc1.symm, h1.drew.drew⟩
      · rw [if_neg (by rw [hm]; simp)] at hpc1
        refine Sm.out ?_
        repeat (first | refine qS ?_ | refine qB ?_ | refine qT rfl ?_ | refine qF rfl ?_ | ((first | refine qR rfl ?_ | refine qK ?_ | refine qE ?_ | refine qW ?_ | refine qM ?_); try simp -dsimp (maxSteps := 2000000) (disch := first | omega | (simp only [qZ] <;> omega) | fail) only [push_cast, ↓qP, ↓reduceIte, Nat.reduceEqDiff, Nat.reduceAdd, Nat.reduceMul, Nat.reduceSub, Nat.reduceLeDiff, Int.reduceToNat, reduceCtorEq, f0, hm]) | (refine qA ?_ ?_; (first | omega | (simp only [qL]; omega) | (simp only [qD] at *; omega))))
        exact Mid.mk ⟨by simp [upd, f2], es, s1, A, n, cap, N, by simp [upd, f3], by injection hpc1 with hpc1; exact hpc1.symm, h1.drew⟩
    clear f0 f2 f3 h1 e124 e41
    intro F w3 hM
    obtain ⟨f0, f2, f3, h1, hcond⟩ := hM.out
    rw [if_pos hcond] at hpc1
    have hm := hcond
    simp only [Bool.and_eq_true] at hm
    obtain ⟨hf0, hi1⟩ := (more3_iff l s1).1 hm.1.1
    clear hcond hm hM
    have hei' := hei hf0
    clear hei
    have hsi := hs.2.2.2 hf0
    repeat (first | refine qS ?_ | refine qB ?_ | refine qT rfl ?_ | refine qF rfl ?_ | ((first | refine qR rfl ?_ | refine qK ?_ | refine qE ?_ | refine qW ?_ | refine qM ?_); try simp -dsimp (maxSteps := 2000000) (disch := first | omega | (simp only [qZ] <;> omega) | fail) only [push_cast, ↓qP, ↓reduceIte, Nat.reduceEqDiff, Nat.reduceAdd, Nat.reduceMul, Nat.reduceSub, Nat.reduceLeDiff, Int.reduceToNat, reduceCtorEq, f0]) | (refine qA ?_ ?_; (first | omega | (simp only [qL]; omega) | (simp only [qD] at *; omega))))
    refine CallV.of isCall_84 (repeat3_any h1.at_ hl (by omega)) ?_
    rintro _ w4 ⟨rfl, h2, k2⟩
    obtain ⟨r1, r2, r3, r4, r5, r6⟩ := repeat3_ok l s1 hsi
    have h3 := h1.keep h2 k2
    clear h1 h2 k2
    generalize repeat3 l s1 = rp at *
    obtain ⟨⟨lo, hi, b⟩, s2⟩ := rp
    simp only at hpc1 h3 r6
    clear r1 r2 r3 r4 r5
    replace r6 : Hide _ := ⟨r6⟩
    have hlta := h3.at_.lt
    have hltr := h3.r.lt
    have hrr := h3.r.rdc
    have hrz := h3.r.fz
    cases b with
    | true =>
      rw [if_pos rfl, if_pos (fail_f _ (by decide))] at hpc1
      refine Sm.out ?_
      repeat (first | refine qS ?_ | refine qB ?_ | refine qT rfl ?_ | refine qF rfl ?_ | ((first | refine qR rfl ?_ | refine qK ?_ | refine qE ?_ | refine qW ?_ | refine qM ?_); try simp -dsimp (maxSteps := 2000000) (disch := first | omega | (simp only [qZ] <;> omega) | fail) only [push_cast, ↓qP, ↓reduceIte, Nat.reduceEqDiff, Nat.reduceAdd, Nat.reduceMul, Nat.reduceSub, Nat.reduceLeDiff, Int.reduceToNat, reduceCtorEq, f0, f2, f3]) | (refine qA ?_ ?_; (first | omega | (simp only [qL]; omega) | (simp only [qD] at *; omega))))
      refine CallV.of isCall_50 (fail3 h3.at_ 3) ?_
      rintro _ w5 ⟨rfl, h4, k4⟩
      have h5 := h3.keep h4 k4
      have hff : ((s2.fail 3).f != 0) = true := by simpa using fail_f s2 (k := 3) (by decide)
      clear h3 h4 k4 hlta hltr hrr hrz r6
      generalize s2.fail 3 = s5 at *
      have hlta := h5.at_.lt
      have hltr := h5.r.lt
      have hrr := h5.r.rdc
      have hrz := h5.r.fz
      refine Sm.out ?_
      repeat (first | refine qS ?_ | refine qB ?_ | refine qT rfl ?_ | refine qF rfl ?_ | ((first | refine qR rfl ?_ | refine qK ?_ | refine qE ?_ | refine qW ?_ | refine qM ?_); try simp -dsimp (maxSteps := 2000000) (disch := first | omega | (simp only [qZ] <;> omega) | fail) only [push_cast, ↓qP, ↓reduceIte, Nat.reduceEqDiff, Nat.reduceAdd, Nat.reduceMul, Nat.reduceSub, Nat.reduceLeDiff, Int.reduceToNat, reduceCtorEq, f0, f2, f3, h5.at_.rdc, hff, hrr, hrz]) | (refine qA ?_ ?_; (first | omega | (simp only [qL]; omega) | (simp only [qD] at *; omega))))
      injection hpc1 with hpc1
      subst hpc1
      exact post_out (w1 := w5) (cs := zRe) h5.at_ h5.r h5.kp h5.lt rfl (by simp [upd, f2]) (zRe_is _ (fun _ => False)) (fun b h => h.elim)
    | false =>
      simp only [Bool.false_eq_true, if_false] at hpc1
      rcases Bool.eq_false_or_eq_true (s2.f != 0) with hff | hff
      · rw [if_pos (by simpa using hff)] at hpc1
        refine Sm.out ?_
        repeat (first | refine qS ?_ | refine qB ?_ | refine qT rfl ?_ | refine qF rfl ?_ | ((first | refine qR rfl ?_ | refine qK ?_ | refine qE ?_ | refine qW ?_ | refine qM ?_); try simp -dsimp (maxSteps := 2000000) (disch := first | omega | (simp only [qZ] <;> omega) | fail) only [push_cast, ↓qP, ↓reduceIte, Nat.reduceEqDiff, Nat.reduceAdd, Nat.reduceMul, Nat.reduceSub, Nat.reduceLeDiff, Int.reduceToNat, reduceCtorEq, f0, f2, f3, h3.at_.rdc, hff, hrr, hrz]) | (refine qA ?_ ?_; (first | omega | (simp only [qL]; omega) | (simp only [qD] at *; omega))))
        injection hpc1 with hpc1
        subst hpc1
        exact post_out (w1 := w4) (cs := zRe) h3.at_ h3.r h3.kp h3.lt rfl (by simp [upd, f2]) (zRe_is _ (fun _ => False)) (fun b h => h.elim)
      rw [if_neg (by simpa using hff)] at hpc1
      obtain rfl : s2 = s1 := (r6.out rfl).resolve_right (by simpa using hff)
      clear r6
      refine Sm.out ?_
      repeat (first | refine qS ?_ | refine qB ?_ | refine qT rfl ?_ | refine qF rfl ?_ | ((first | refine qR rfl ?_ | refine qK ?_ | refine qE ?_ | refine qW ?_ | refine qM ?_); try simp -dsimp (maxSteps := 2000000) (disch := first | omega | (simp only [qZ] <;> omega) | fail) only [push_cast, ↓qP, ↓reduceIte, Nat.reduceEqDiff, Nat.reduceAdd, Nat.reduceMul, Nat.reduceSub, Nat.reduceLeDiff, Int.reduceToNat, reduceCtorEq, f0, f2, f3, h3.at_.rdc, hff]) | (refine qA ?_ ?_; (first | omega | (simp only [qL]; omega) | (simp only [qD] at *; omega))))
      obtain ⟨⟨t, s1⟩, hat⟩ : ∃ p, atom3 l j s2 = some p := by
        cases hp : atom3 l j s2 with
        | none => rw [hp] at hpc1; cases hpc1
        | some p => exact ⟨p, rfl⟩
      rw [hat] at hpc1
      simp only [] at hpc1
      obtain ⟨m1, m2⟩ := (reads_ok l j).1 _ _ _ hs hf0 hi1 hat
      have hs1 := m1.st hs
      refine CallV.of isCall_85 (ih j (by omega) s2 w4 h3.at_ hs hf0 hi1 ⟨_, hat⟩) ?_
      rintro _ w5 ⟨t', s1', cs, he, rfl, hre, h4, k4⟩
      rw [hat] at he
      injection he with he
      injection he with he1 he2
      subst he1; subst he2
      have h5 := h3.keep h4 k4
      have hN2 := h3.N2
      clear h3 h4 k4 hlta hltr hrr hrz hat
      obtain ⟨o, se, A1, c1, c2, lo1, hi1', rfl⟩ := hre.form
      have hlta := h5.at_.lt
      have hltr := h5.r.lt
      refine Sm.out ?_
      repeat (first | ((fail_if_success (first | refine qX (n := 2) ?_)); refine qS ?_) | refine qB ?_ | refine qT rfl ?_ | refine qF rfl ?_ | ((first | refine qR rfl ?_ | refine qK ?_ | refine qE ?_ | refine qW ?_ | refine qM ?_); try simp -dsimp (maxSteps := 2000000) (disch := first | omega | (simp only [qZ] <;> omega) | fail) only [push_cast, ↓qP, ↓reduceIte, Nat.reduceEqDiff, Nat.reduceAdd, Nat.reduceMul, Nat.reduceSub, Nat.reduceLeDiff, Int.reduceToNat, reduceCtorEq, f0, f2, f3]) | (refine qA ?_ ?_; (first | omega | (simp only [qL]; omega) | (simp only [qD] at *; omega))))
      have hqN := h5.N2
      obtain ⟨q, hq⟩ : ∃ q, q = w5.heap.size := ⟨_, rfl⟩
      rw [← hq]
      refine Wp.gen (w := (w5.alloc (.cells zRe.toArray 33)).setCells q 0 [.string (B o), .string (B se), .slice A1 c1 c2, .int .i64 lo1, .int .i64 hi1']) (A := fun W => Ls w a l s1 es A n cap N W ∧ Blk W q 33 [.string (B o), .string (B se), .slice A1 c1 c2, .int .i64 lo1, .int .i64 hi1'] ∧ IsRe W (fun b => N ≤ b ∧ b < W.heap.size ∧ b ≠ q) t [.string (B o), .string (B se), .slice A1 c1 c2, .int .i64 lo1, .int .i64 hi1']) ?_ ?_
      · have hk : Kp (· = q) w5 ((w5.alloc (.cells zRe.toArray 33)).setCells q 0 [.string (B o), .string (B se), .slice A1 c1 c2, .int .i64 lo1, .int .i64 hi1']) := ((Kp.refl (· = q) w5).alloc _).setCells (fun _ => rfl) [.string (B o), .string (B se), .slice A1 c1 c2, .int .i64 lo1, .int .i64 hi1'] 0
        exact ⟨(h5.alloc _).setq (by omega) [.string (B o), .string (B se), .slice A1 c1 c2, .int .i64 lo1, .int .i64 hi1'], Blk.setAll (cs := zRe) (vs := [.string (B o), .string (B se), .slice A1 c1 c2, .int .i64 lo1, .int .i64 hi1']) (by rw [hq]; exact Blk.new w5 33 zRe) rfl, hre.Kp hk (fun b hb e => by have := hb.2; omega) (fun b hb => ⟨by have := hb.1; omega, Nat.lt_of_lt_of_le hb.2 hk.size, by have := hb.2; omega⟩)⟩
      rw [hq]
      clear h5 hre hlta hltr
      rintro w6 ⟨h5, hbq, hre⟩
      generalize w5.heap.size = q at *
      subst hq
      obtain ⟨⟨e', s3⟩, hR2⟩ : ∃ p, reps3 l (l.length + 2) t s1 = some p := by
        cases hp : reps3 l (l.length + 2) t s1 with
        | none => rw [hp] at hpc1; cases hpc1
        | some p => exact ⟨p, rfl⟩
      rw [hR2] at hpc1
      simp only [] at hpc1
      obtain ⟨j1, j2, j3, j4, j5⟩ := reps3_ok l _ _ _ _ _ (fun h => (m1.2.2 h).2.2) hR2
      have m3 : Mv l s1 s3 := ⟨j1, by have := hs1.2.2.1; have := hs1.2.1; omega, fun h => ⟨(j4 h).1, j3, (j4 h).2⟩⟩
      refine Wp.cut (fun F W => F 0 = .pointer (some ⟨a, 0, none⟩) ∧ F 2 = .pointer (some ⟨w.heap.size, 0, none⟩) ∧ F 3 = .slice A n cap ∧ F 7 = .pointer (some ⟨q, 0, none⟩) ∧ ∃ cs, Ls w a l s3 es A n cap N W ∧ Blk W q 33 cs ∧ IsRe W (fun b => N ≤ b ∧ b < W.heap.size ∧ b ≠ q) e' cs) ?_ ?_
      · repeat (first | refine qS ?_ | refine qB ?_ | refine qT rfl ?_ | refine qF rfl ?_ | ((first | refine qR rfl ?_ | refine qK ?_ | refine qE ?_ | refine qW ?_ | refine qM ?_); try simp -dsimp (maxSteps := 2000000) (disch := first | omega | (simp only [qZ] <;> omega) | fail) only [push_cast, ↓qP, ↓reduceIte, Nat.reduceEqDiff, Nat.reduceAdd, Nat.reduceMul, Nat.reduceSub, Nat.reduceLeDiff, Int.reduceToNat, reduceCtorEq]) | (refine qA ?_ ?_; (first | omega | (simp only [qL]; omega) | (simp only [qD] at *; omega))))
        refine Wp.loop (α := Nat) (fun k F W => F 0 = .pointer (some ⟨a, 0, none⟩) ∧ F 2 = .pointer (some ⟨w.heap.size, 0, none⟩) ∧ F 3 = .slice A n cap ∧ F 7 = .pointer (some ⟨q, 0, none⟩) ∧ ∃ e1 s1 cs, Ls w a l s1 es A n cap N W ∧ Blk W q 33 cs ∧ IsRe W (fun b => N ≤ b ∧ b < W.heap.size ∧ b ≠ q) e1 cs ∧ Hide (s1.f = 0 → s1.i ≤ l.length) ∧ Hide (reps3 l k e1 s1 = some (e', s3))) (fun k => k) (l.length + 2)
          ⟨by simp [upd, f0], by simp [upd, f2], by simp [upd, f3], by simp [upd], t, s1, _, h5, hbq, hre, ⟨fun h => (m1.2.2 h).2.2⟩, ⟨hR2⟩⟩ ?_
        clear f0 f2 f3 h5 hbq hre m1 m2 m3 hs1 j1 j2 j3 j4 j5 hR2 hpc1 hs hf0 hi1 hsi hff
        rintro k F w7 ⟨f0, f2, f3, f7, e1, s1, cs, h5, hbq, hre, hsi, hrep⟩
        obtain ⟨k, rfl⟩ : ∃ k', k = k' + 1 := by
          cases k with
          | zero => have := hrep.out; simp [reps3] at this
          | succ k => exact ⟨k, rfl⟩
        have hrep1 := hrep.out
        simp only [reps3] at hrep1
        clear hrep
        have hlta := h5.at_.lt
        rcases Bool.eq_false_or_eq_true (s1.f == 0) with hf | hf
        · have hf0 : s1.f = 0 := by simpa using hf
          rw [if_neg (by simpa using hf0)] at hrep1
          have hi0 := hsi.out hf0
          repeat (first | refine qS ?_ | refine qB ?_ | refine qT rfl ?_ | refine qF rfl ?_ | ((first | refine qR rfl ?_ | refine qK ?_ | refine qE ?_ | refine qW ?_ | refine qM ?_); try simp -dsimp (maxSteps := 2000000) (disch := first | omega | (simp only [qZ] <;> omega) | fail) only [push_cast, ↓qP, ↓reduceIte, Nat.reduceEqDiff, Nat.reduceAdd, Nat.reduceMul, Nat.reduceSub, Nat.reduceLeDiff, Int.reduceToNat, reduceCtorEq, f0, h5.at_.rdc, hf]) | (refine qA ?_ ?_; (first | omega | (simp only [qL]; omega) | (simp only [qD] at *; omega))))
          refine CallV.of isCall_84 (repeat3_any h5.at_ hl (by omega)) ?_
          rintro _ w8 ⟨rfl, h6, k6⟩
          obtain ⟨r1, r2, r3, r4, r5, r6⟩ := repeat3_ok l s1 hi0
          have h7 := h5.keep h6 k6
          have hN1 := h5.N1
          have hlta := h5.lt
          have hbq2 := k6.Blk hbq (by omega)
          have hre2 := hre.Kp (D' := fun b => N ≤ b ∧ b < w8.heap.size ∧ b ≠ q) k6 (fun b hb e => by have := hb.1; omega) (fun b hb => ⟨hb.1, Nat.lt_of_lt_of_le hb.2.1 k6.size, hb.2.2⟩)
          clear h5 h6 k6 hbq hre r1 r2 r4 r5 r6
          generalize repeat3 l s1 = rp at *
          obtain ⟨⟨lo, hi, b⟩, s2⟩ := rp
          simp only at hrep1 h7 r3
          obtain ⟨o, se, A1, c1, c2, lo1, hi1', rfl⟩ := hre2.form
          have hlta := h7.at_.lt
          have hltq := hbq2.lt
          cases b with
          | true =>
            rw [if_neg (by simp)] at hrep1
            refine Sm.out ?_
            repeat (first | refine qS ?_ | refine qB ?_ | refine qT rfl ?_ | refine qF rfl ?_ | ((first | refine qR rfl ?_ | refine qK ?_ | refine qE ?_ | refine qW ?_ | refine qM ?_); try simp -dsimp (maxSteps := 2000000) (disch := first | omega | (simp only [qZ] <;> omega) | fail) only [push_cast, ↓qP, ↓reduceIte, Nat.reduceEqDiff, Nat.reduceAdd, Nat.reduceMul, Nat.reduceSub, Nat.reduceLeDiff, Int.reduceToNat, reduceCtorEq, f0, f2, f3, f7, hbq2.rdc, hbq2.fz]) | (refine qA ?_ ?_; (first | omega | (simp only [qL]; omega) | (simp only [qD] at *; omega))))
            have hk9 : Kp (· = q) w8 ((w8.alloc (.cells [.string (B o), .string (B se), .slice A1 c1 c2, .int .i64 lo1, .int .i64 hi1'].toArray 33)).setCells q 0 [.string (B opRep), .string (B []), .slice (some ⟨w8.heap.size, 0, none⟩) 1 1, .int .i64 lo, .int .i64 hi]) := ((Kp.refl (· = q) w8).alloc _).setCells (fun _ => rfl) [.string (B opRep), .string (B []), .slice (some ⟨w8.heap.size, 0, none⟩) 1 1, .int .i64 lo, .int .i64 hi] 0
            have h9 : Ls w a l s2 es A n cap N ((w8.alloc (.cells [.string (B o), .string (B se), .slice A1 c1 c2, .int .i64 lo1, .int .i64 hi1'].toArray 33)).setCells q 0 [.string (B opRep), .string (B []), .slice (some ⟨w8.heap.size, 0, none⟩) 1 1, .int .i64 lo, .int .i64 hi]) := (h7.alloc _).setq hqN _
            have hbq9 : Blk ((w8.alloc (.cells [.string (B o), .string (B se), .slice A1 c1 c2, .int .i64 lo1, .int .i64 hi1'].toArray 33)).setCells q 0 [.string (B opRep), .string (B []), .slice (some ⟨w8.heap.size, 0, none⟩) 1 1, .int .i64 lo, .int .i64 hi]) q 33 [.string (B opRep), .string (B []), .slice (some ⟨w8.heap.size, 0, none⟩) 1 1, .int .i64 lo, .int .i64 hi] := Blk.setAll (hbq2.alloc _) rfl
            have hre9 := IsRe.one_kid (m := w8.heap.size) (c := 1) (op := opRep) (set := []) (lo := lo) (hi := hi) (D' := fun b => N ≤ b ∧ b < ((w8.alloc (.cells [.string (B o), .string (B se), .slice A1 c1 c2, .int .i64 lo1, .int .i64 hi1'].toArray 33)).setCells q 0 [.string (B opRep), .string (B []), .slice (some ⟨w8.heap.size, 0, none⟩) 1 1, .int .i64 lo, .int .i64 hi]).heap.size ∧ b ≠ q)
              (Blk.farCells (b := q) (Nat.ne_of_gt hltq) [.string (B opRep), .string (B []), .slice (some ⟨w8.heap.size, 0, none⟩) 1 1, .int .i64 lo, .int .i64 hi] 0 _ (Blk.new w8 33 [.string (B o), .string (B se), .slice A1 c1 c2, .int .i64 lo1, .int .i64 hi1']))
              (hre2.Kp (D' := fun b => N ≤ b ∧ b < ((w8.alloc (.cells [.string (B o), .string (B se), .slice A1 c1 c2, .int .i64 lo1, .int .i64 hi1'].toArray 33)).setCells q 0 [.string (B opRep), .string (B []), .slice (some ⟨w8.heap.size, 0, none⟩) 1 1, .int .i64 lo, .int .i64 hi]).heap.size ∧ b ≠ q) hk9 (fun b hb => hb.2.2) (fun b hb => ⟨hb.1, Nat.lt_of_lt_of_le hb.2.1 hk9.size, hb.2.2⟩)) (fun b hb => hb)
              ⟨by omega, by have h := (Blk.farCells (b := q) (Nat.ne_of_gt hltq) [.string (B opRep), .string (B []), .slice (some ⟨w8.heap.size, 0, none⟩) 1 1, .int .i64 lo, .int .i64 hi] 0 _ (Blk.new w8 33 [.string (B o), .string (B se), .slice A1 c1 c2, .int .i64 lo1, .int .i64 hi1'])).lt; exact h, by omega⟩
            exact Again.mk k ⟨by simp [upd, f0], by simp [upd, f2], by simp [upd, f3], by simp [upd, f7], _, s2, [.string (B opRep), .string (B []), .slice (some ⟨w8.heap.size, 0, none⟩) 1 1, .int .i64 lo, .int .i64 hi], h9, hbq9, hre9, ⟨fun _ => r3⟩, ⟨hrep1⟩⟩ (by omega)
          | false =>
            rw [if_pos (show (!false) = true from rfl)] at hrep1
            injection hrep1 with hrep1
            injection hrep1 with e1 e2
            subst e1; subst e2
            refine Sm.out ?_
            repeat (first | refine qS ?_ | refine qB ?_ | refine qT rfl ?_ | refine qF rfl ?_ | ((first | refine qR rfl ?_ | refine qK ?_ | refine qE ?_ | refine qW ?_ | refine qM ?_); try simp -dsimp (maxSteps := 2000000) (disch := first | omega | (simp only [qZ] <;> omega) | fail) only [push_cast, ↓qP, ↓reduceIte, Nat.reduceEqDiff, Nat.reduceAdd, Nat.reduceMul, Nat.reduceSub, Nat.reduceLeDiff, Int.reduceToNat, reduceCtorEq, f0, f2, f3, f7]) | (refine qA ?_ ?_; (first | omega | (simp only [qL]; omega) | (simp only [qD] at *; omega))))
            exact Mid.mk ⟨by simp [upd, f0], by simp [upd, f2], by simp [upd, f3], by simp [upd, f7], _, h7, hbq2, hre2⟩
        · rw [if_pos (by simpa using hf)] at hrep1
          injection hrep1 with hrep1
          injection hrep1 with e1 e2
          subst e1; subst e2
          repeat (first | refine qS ?_ | refine qB ?_ | refine qT rfl ?_ | refine qF rfl ?_ | ((first | refine qR rfl ?_ | refine qK ?_ | refine qE ?_ | refine qW ?_ | refine qM ?_); try simp -dsimp (maxSteps := 2000000) (disch := first | omega | (simp only [qZ] <;> omega) | fail) only [push_cast, ↓qP, ↓reduceIte, Nat.reduceEqDiff, Nat.reduceAdd, Nat.reduceMul, Nat.reduceSub, Nat.reduceLeDiff, Int.reduceToNat, reduceCtorEq, f0, h5.at_.rdc, hf]) | (refine qA ?_ ?_; (first | omega | (simp only [qL]; omega) | (simp only [qD] at *; omega))))
          exact Mid.mk ⟨by simp [upd, f0], by simp [upd, f2], by simp [upd, f3], by simp [upd, f7], _, h5, hbq, hre⟩
      clear f0 f2 f3 h5 hbq hre
      rintro F w7 ⟨f0, f2, f3, f7, cs, h5, hbq, hre⟩
      obtain ⟨xs, hown, hel⟩ := h5.own
      obtain ⟨o, se, A1, c1, c2, lo1, hi1', rfl⟩ := hre.form
      have hlta := h5.at_.lt
      have hltq := hbq.lt
      have hn := h5.n
      repeat (first | refine qS ?_ | refine qB ?_ | refine qT rfl ?_ | refine qF rfl ?_ | ((first | refine qR rfl ?_ | refine qK ?_ | refine qE ?_ | refine qW ?_ | refine qM ?_); try simp -dsimp (maxSteps := 2000000) (disch := first | omega | (simp only [qZ] <;> omega) | fail) only [push_cast, ↓qP, ↓reduceIte, Nat.reduceEqDiff, Nat.reduceAdd, Nat.reduceMul, Nat.reduceSub, Nat.reduceLeDiff, Int.reduceToNat, reduceCtorEq, f0, f2, f3, f7, hbq.rdc]) | (refine qA ?_ ?_; (first | omega | (simp only [qL]; omega) | (simp only [qD] at *; omega))))
      refine V_append (m := 1) _ _ _ rfl mk_31 rfl (hown.alloc _) rfl [.string (B o), .string (B se), .slice A1 c1 c2, .int .i64 lo1, .int .i64 hi1'] ?r rfl (by omega) (by omega) ?kk
      case r => simp -dsimp (maxSteps := 2000000) (disch := first | omega | (simp only [qZ] <;> omega) | fail) only [push_cast, ↓qP, ↓reduceIte, Nat.reduceEqDiff, Nat.reduceAdd, Nat.reduceMul, Nat.reduceSub, Nat.reduceLeDiff, Int.reduceToNat, reduceCtorEq]
      case kk =>
        intro A' cap' w8 hown' hgrow hat
        have h9 := h5.append hown hel (IsRe.keep (fun b hb => ⟨hb.1, hb.2.1⟩) (fun b _ i n vs hr => hr) _ _ hre) hown' hgrow hat
        refine Sm.out ?_
        repeat (first | refine qS ?_ | refine qB ?_ | refine qT rfl ?_ | refine qF rfl ?_ | ((first | refine qR rfl ?_ | refine qK ?_ | refine qE ?_ | refine qW ?_ | refine qM ?_); try simp -dsimp (maxSteps := 2000000) (disch := first | omega | (simp only [qZ] <;> omega) | fail) only [push_cast, ↓qP, ↓reduceIte, Nat.reduceEqDiff, Nat.reduceAdd, Nat.reduceMul, Nat.reduceSub, Nat.reduceLeDiff, Int.reduceToNat, reduceCtorEq, f0, f2, f3, f7]) | (refine qA ?_ ?_; (first | omega | (simp only [qL]; omega) | (simp only [qD] at *; omega))))
        exact Again.mk j ⟨by omega, by simp [upd, f0], by simp [upd, f2], es ++ [e'], s3, A', n + 1, cap', _, by simp [upd], h9, m3.st hs1, fun h => by have := (m3.2.2 h).1; have := m2 this; simp; omega, ⟨hpc1⟩⟩ (by omega)
  clear h hs hR
  intro F w1 hM
  obtain ⟨f2, es, s1, A, n, cap, N, f3, rfl, h1⟩ := hM.out
  clear hM
  obtain ⟨xs, hown, hel⟩ := h1.own
  have hn := h1.n
  have hltr := h1.r.lt
  have hrr := h1.r.rdc
  have hrz := h1.r.fz
  have hN1 := h1.N1
  have hN2 := h1.N2
  by_cases hone : n = 1
  · obtain ⟨e, rfl⟩ : ∃ e, es = [e] := by
      match es, hn with
      | [e], _ => exact ⟨e, rfl⟩
      | [], hn => simp at hn; omega
      | _ :: _ :: _, hn => simp at hn; omega
    obtain ⟨cs, ys, rfl, hre, hys⟩ := hel
    simp only [IsEl] at hys
    subst hys
    obtain ⟨o, se, A1, c1, c2, lo1, hi1', rfl⟩ := hre.form
    obtain ⟨g, rfl, hg, _⟩ := hown.some (by omega)
    have hrd : ∀ j, j < 5 → rdc w1 g j = [.string (B o), .string (B se), .slice A1 c1 c2, .int .i64 lo1, .int .i64 hi1'][j]? := fun j hj => by
      rw [hown.rdc j (by omega), List.append_nil]
    have c1' : ((n : Int) == 1) = true := by simp; omega
    clear hown hn
    repeat (first | refine qS ?_ | refine qB ?_ | refine qT rfl ?_ | refine qF rfl ?_ | ((first | refine qR rfl ?_ | refine qK ?_ | refine qE ?_ | refine qW ?_ | refine qM ?_); try simp -dsimp (maxSteps := 2000000) (disch := first | omega | (simp only [qZ] <;> omega) | fail) only [push_cast, ↓qP, ↓reduceIte, Nat.reduceEqDiff, Nat.reduceAdd, Nat.reduceMul, Nat.reduceSub, Nat.reduceLeDiff, Int.reduceToNat, reduceCtorEq, f2, f3, c1', hrd, hrr, hrz]) | (refine qA ?_ ?_; (first | omega | (simp only [qL]; omega) | (simp only [qD] at *; omega))))
    exact post_out (w1 := w1) (cs := [.string (B o), .string (B se), .slice A1 c1 c2, .int .i64 lo1, .int .i64 hi1']) h1.at_ h1.r h1.kp h1.lt rfl (by simp [upd, f2]) hre (fun b hb => ⟨hb.1, by have := hb.2.1; omega⟩)
  · have c1' : ((n : Int) == 1) = false := by simp; omega
    have hm : (match some (some es, s1) with
        | none => none
        | some (none, s1) => some (Re.zero, s1)
        | some (some [e], s1) => some (e, s1)
        | some (some es, s1) => some (Re.node opCat [] es 0 0, s1) : Option (Re × S3)) = some (Re.node opCat [] es 0 0, s1) := by
      match es, hn with
      | [e], hn => simp at hn; omega
      | [], _ => rfl
      | _ :: _ :: _, _ => rfl
    repeat (first | refine qS ?_ | refine qB ?_ | refine qT rfl ?_ | refine qF rfl ?_ | ((first | refine qR rfl ?_ | refine qK ?_ | refine qE ?_ | refine qW ?_ | refine qM ?_); try simp -dsimp (maxSteps := 2000000) (disch := first | omega | (simp only [qZ] <;> omega) | fail) only [push_cast, ↓qP, ↓reduceIte, Nat.reduceEqDiff, Nat.reduceAdd, Nat.reduceMul, Nat.reduceSub, Nat.reduceLeDiff, Int.reduceToNat, reduceCtorEq, f2, f3, c1', hrr, hrz]) | (refine qA ?_ ?_; (first | omega | (simp only [qL]; omega) | (simp only [qD] at *; omega))))
    exact post_out (w1 := w1) (cs := [.string (B opCat), .string (B []), .slice A n cap, .int .i64 0, .int .i64 0]) h1.at_ h1.r h1.kp h1.lt hm (by simp [upd, f2]) (own_kids hown hel (D' := fun b => w.heap.size < b ∧ b < w1.heap.size) (fun b hb => ⟨hb.1, by have := hb.2.1; omega⟩) (fun b hb => ⟨(h1.fresh b hb).1, hown.lt hb⟩) _ _ _ _) (fun b hb => hb)
end
end Go.Proofs.Ytddichibegppjaa
