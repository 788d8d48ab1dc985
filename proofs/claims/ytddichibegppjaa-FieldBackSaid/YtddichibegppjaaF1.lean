/- Records: small methods. -/
import Derived.Test.YtddichibegppjaaFacts
import Derived.Test.YtddichibegppjaaVn
import Derived.Test.YtddichibegppjaaShelf
set_option linter.unusedSimpArgs false
set_option linter.unusedVariables false
attribute [local irreducible] Go.VC.OpV Go.VC.CallV Go.VC.Wp
namespace Go.Proofs.Ytddichibegppjaa
open Go Go.VC

theorem Blk.own {w : World} {g e n sz : Nat} {cs : List Value} (h : Blk w g e cs) (hl : cs.length = n * sz) (hm : n ≤ maxLen) : Own w e sz (some ⟨g, 0, none⟩) n n cs :=
  Own.mk' h (Nat.le_refl _) hm (by simpa using hl) (by simp [← hl])

theorem join_le (xs : List (List UInt8)) (sep : List UInt8) (m k : Nat) (h : ∀ y ∈ xs, y.length ≤ m) (hs : sep.length ≤ k) : (Lib.join xs sep).length ≤ xs.length * (m + k) := by
  cases xs with
  | nil => simp [Lib.join_nil]
  | cons x r =>
    rw [Lib.join_cons, List.length_append]
    have h1 := h x (by simp)
    have h2 : (Lib.joinTail sep r).length ≤ r.length * (m + k) := by
      have h3 : ∀ y ∈ r, y.length ≤ m := fun y hy => h y (by simp [hy])
      clear h h1
      induction r with
      | nil => simp [Lib.joinTail]
      | cons y r ih =>
        have := ih (fun z hz => h3 z (by simp [hz]))
        have h4 := h3 y (by simp)
        simp [Lib.joinTail] at this ⊢
        rw [Nat.add_mul]
        omega
    simp [Nat.add_mul]
    omega

/-- A line, and its fields. -/
def Rec (w : World) (r : Nat) (l : List UInt8) (xs : List (List UInt8)) : Prop :=
  ∃ A c, Blk w r 116 [.string (B l), .slice A xs.length c] ∧ Own w 9 1 A xs.length c (St xs)

def ptr (r : Nat) : Value := .pointer (some ⟨r, 0, none⟩)
section
variable {r : Nat} {l : List UInt8} {xs : List (List UInt8)} {w w' : World}

theorem Rec.Kp (h : Rec w r l xs) (hk : VC.Kp (fun _ => False) w w') : Rec w' r l xs := by
  obtain ⟨A, c, hb, ho⟩ := h
  exact ⟨A, c, hk.Blk hb id, ho.Kp hk fun _ _ => id⟩

theorem line_any (h : Rec w r l xs) : Calls Try.prog 39 #[.pointer (some ⟨r, 0, none⟩)] w fun e w' => e = .returned (.string (B l)) ∧ w = w' := by
  obtain ⟨A, c, hb, ho⟩ := h
  have hlt := hb.lt
  refine enter (n := 9) (args := [.pointer (some ⟨r, 0, none⟩)]) Try.func39 rfl rfl rfl (by simp) ?_
  repeat (first | refine Wp.seq ?_ | refine Wp.block ?_ | refine Wp.condT rfl ?_ | refine Wp.condF rfl ?_ | ((first | refine Wp.region rfl ?_ | refine Wp.skip ?_ | refine Wp.ret ?_ | refine Wp.exit ?_); simp -dsimp (maxSteps := 2000000) (disch := first | omega | ((repeat (first | rw [sz_drew] | rw [World.size_alloc] | rw [World.size_setCell] | rw [setCells_cons] | rw [setCells_nil])); first | done | omega) | fail) only [push_cast, ↓upd_at, ↓reduceIte, Nat.reduceEqDiff, Nat.reduceAdd, Nat.reduceMul, Nat.reduceSub, Nat.reduceLeDiff, Int.reduceToNat, reduceCtorEq, eq_self, beq_self_eq_true, hb.rdc]) | refine And.intro (by first | omega | (simp only [List.length_append, List.length_cons, List.length_nil]; omega)) ?_)
  exact Ret.mk ⟨rfl, rfl⟩

theorem nf_any (h : Rec w r l xs) : Calls Try.prog 40 #[.pointer (some ⟨r, 0, none⟩)] w fun e w' => e = .returned (.int .i64 xs.length) ∧ w = w' := by
  obtain ⟨A, c, hb, ho⟩ := h
  have hlt := hb.lt
  refine enter (n := 10) (args := [.pointer (some ⟨r, 0, none⟩)]) Try.func40 rfl rfl rfl (by simp) ?_
  repeat (first | refine Wp.seq ?_ | refine Wp.block ?_ | refine Wp.condT rfl ?_ | refine Wp.condF rfl ?_ | ((first | refine Wp.region rfl ?_ | refine Wp.skip ?_ | refine Wp.ret ?_ | refine Wp.exit ?_); simp -dsimp (maxSteps := 2000000) (disch := first | omega | ((repeat (first | rw [sz_drew] | rw [World.size_alloc] | rw [World.size_setCell] | rw [setCells_cons] | rw [setCells_nil])); first | done | omega) | fail) only [push_cast, ↓upd_at, ↓reduceIte, Nat.reduceEqDiff, Nat.reduceAdd, Nat.reduceMul, Nat.reduceSub, Nat.reduceLeDiff, Int.reduceToNat, reduceCtorEq, eq_self, beq_self_eq_true, hb.rdc]) | refine And.intro (by first | omega | (simp only [List.length_append, List.length_cons, List.length_nil]; omega)) ?_)
  exact Ret.mk ⟨rfl, rfl⟩

theorem room_any (h : Rec w r l xs) (n : Int) : Calls Try.prog 67 #[.pointer (some ⟨r, 0, none⟩), .int .i64 n] w fun e w' => e = .returned (.bool (decide (n ≤ max 1000 (xs.length : Int)))) ∧ w = w' := by
  obtain ⟨A, c, hb, ho⟩ := h
  have hlt := hb.lt
  refine enter (n := 13) (args := [.pointer (some ⟨r, 0, none⟩), .int .i64 n]) Try.func67 rfl rfl rfl (by simp) ?_
  repeat (first | refine Wp.seq ?_ | refine Wp.block ?_ | refine Wp.condT rfl ?_ | refine Wp.condF rfl ?_ | ((first | refine Wp.region rfl ?_ | refine Wp.skip ?_ | refine Wp.ret ?_ | refine Wp.exit ?_); simp -dsimp (maxSteps := 2000000) (disch := first | omega | ((repeat (first | rw [sz_drew] | rw [World.size_alloc] | rw [World.size_setCell] | rw [setCells_cons] | rw [setCells_nil])); first | done | omega) | fail) only [push_cast, ↓upd_at, ↓reduceIte, Nat.reduceEqDiff, Nat.reduceAdd, Nat.reduceMul, Nat.reduceSub, Nat.reduceLeDiff, Int.reduceToNat, reduceCtorEq, eq_self, beq_self_eq_true, hb.rdc]) | refine And.intro (by first | omega | (simp only [List.length_append, List.length_cons, List.length_nil]; omega)) ?_)
  exact Ret.mk ⟨rfl, rfl⟩

/-- What Get answers. -/
def getM (l : List UInt8) (xs : List (List UInt8)) (i : Int) : List UInt8 × Bool :=
  if i < 0 then ([], false) else if i = 0 then (l, true) else if i ≤ xs.length then (xs.getD (i - 1).toNat [], true) else ([], decide (i ≤ 1000))

theorem get_any (h : Rec w r l xs) (i : Int) (hi : -9223372036854775808 ≤ i ∧ i ≤ 9223372036854775807) (hx : xs.length ≤ 1000000) : Calls Try.prog 44 #[.pointer (some ⟨r, 0, none⟩), .int .i64 i] w fun e w' => e = .returned (.tuple #[.string (B (getM l xs i).1), .bool (getM l xs i).2]) ∧ w = w' := by
  obtain ⟨A, c, hb, ho⟩ := h
  have hlt := hb.lt
  refine enter (n := 38) (args := [.pointer (some ⟨r, 0, none⟩), .int .i64 i]) Try.func44 rfl rfl rfl (by simp) ?_
  rcases Bool.eq_false_or_eq_true (decide (i < 0)) with h1 | h1
  · repeat (first | refine Wp.seq ?_ | refine Wp.block ?_ | refine Wp.condT rfl ?_ | refine Wp.condF rfl ?_ | ((first | refine Wp.region rfl ?_ | refine Wp.skip ?_ | refine Wp.ret ?_ | refine Wp.exit ?_); simp -dsimp (maxSteps := 2000000) (disch := first | omega | ((repeat (first | rw [sz_drew] | rw [World.size_alloc] | rw [World.size_setCell] | rw [setCells_cons] | rw [setCells_nil])); first | done | omega) | fail) only [push_cast, ↓upd_at, ↓reduceIte, Nat.reduceEqDiff, Nat.reduceAdd, Nat.reduceMul, Nat.reduceSub, Nat.reduceLeDiff, Int.reduceToNat, reduceCtorEq, eq_self, beq_self_eq_true, hb.rdc, h1]) | refine And.intro (by first | omega | (simp only [List.length_append, List.length_cons, List.length_nil]; omega)) ?_)
    have e : getM l xs i = ([], false) := by simp at h1; simp [getM, h1]
    rw [e]
    exact Ret.mk ⟨rfl, rfl⟩
  have h1' := of_decide_eq_false h1
  rcases Bool.eq_false_or_eq_true (i == 0) with h2 | h2
  · repeat (first | refine Wp.seq ?_ | refine Wp.block ?_ | refine Wp.condT rfl ?_ | refine Wp.condF rfl ?_ | ((first | refine Wp.region rfl ?_ | refine Wp.skip ?_ | refine Wp.ret ?_ | refine Wp.exit ?_); simp -dsimp (maxSteps := 2000000) (disch := first | omega | ((repeat (first | rw [sz_drew] | rw [World.size_alloc] | rw [World.size_setCell] | rw [setCells_cons] | rw [setCells_nil])); first | done | omega) | fail) only [push_cast, ↓upd_at, ↓reduceIte, Nat.reduceEqDiff, Nat.reduceAdd, Nat.reduceMul, Nat.reduceSub, Nat.reduceLeDiff, Int.reduceToNat, reduceCtorEq, eq_self, beq_self_eq_true, hb.rdc, h1, h2]) | refine And.intro (by first | omega | (simp only [List.length_append, List.length_cons, List.length_nil]; omega)) ?_)
    have e : getM l xs i = (l, true) := by simp at h2; simp [getM, h1', h2]
    rw [e]
    exact Ret.mk ⟨rfl, rfl⟩
  have h2' : i ≠ 0 := by simpa using h2
  rcases Bool.eq_false_or_eq_true (decide (i ≤ (xs.length : Int))) with h3 | h3
  · have h3' := of_decide_eq_true h3
    have hj : (i - 1).toNat < xs.length := by omega
    obtain ⟨g, rfl, hg, _⟩ := ho.some (by omega)
    have hr := ho.rdc (i - 1).toNat (by omega)
    rw [St_get, List.getElem?_eq_getElem hj] at hr
    simp only [Option.map_some] at hr
    repeat (first | refine Wp.seq ?_ | refine Wp.block ?_ | refine Wp.condT rfl ?_ | refine Wp.condF rfl ?_ | ((first | refine Wp.region rfl ?_ | refine Wp.skip ?_ | refine Wp.ret ?_ | refine Wp.exit ?_); simp -dsimp (maxSteps := 2000000) (disch := first | omega | ((repeat (first | rw [sz_drew] | rw [World.size_alloc] | rw [World.size_setCell] | rw [setCells_cons] | rw [setCells_nil])); first | done | omega) | fail) only [push_cast, ↓upd_at, ↓reduceIte, Nat.reduceEqDiff, Nat.reduceAdd, Nat.reduceMul, Nat.reduceSub, Nat.reduceLeDiff, Int.reduceToNat, reduceCtorEq, eq_self, beq_self_eq_true, hb.rdc, h1, h2, h3, hr]) | refine And.intro (by first | omega | (simp only [List.length_append, List.length_cons, List.length_nil]; omega)) ?_)
    have e : getM l xs i = (xs[(i - 1).toNat], true) := by unfold getM; rw [if_neg h1', if_neg h2', if_pos h3', List.getD_eq_getElem?_getD, List.getElem?_eq_getElem hj]; rfl
    rw [e]
    exact Ret.mk ⟨rfl, rfl⟩
  · have h3' := of_decide_eq_false h3
    repeat (first | refine Wp.seq ?_ | refine Wp.block ?_ | refine Wp.condT rfl ?_ | refine Wp.condF rfl ?_ | ((first | refine Wp.region rfl ?_ | refine Wp.skip ?_ | refine Wp.ret ?_ | refine Wp.exit ?_); simp -dsimp (maxSteps := 2000000) (disch := first | omega | ((repeat (first | rw [sz_drew] | rw [World.size_alloc] | rw [World.size_setCell] | rw [setCells_cons] | rw [setCells_nil])); first | done | omega) | fail) only [push_cast, ↓upd_at, ↓reduceIte, Nat.reduceEqDiff, Nat.reduceAdd, Nat.reduceMul, Nat.reduceSub, Nat.reduceLeDiff, Int.reduceToNat, reduceCtorEq, eq_self, beq_self_eq_true, hb.rdc, h1, h2, h3]) | refine And.intro (by first | omega | (simp only [List.length_append, List.length_cons, List.length_nil]; omega)) ?_)
    have e : getM l xs i = ([], decide (i ≤ 1000)) := by simp [getM, h1', h2', h3']
    rw [e]
    exact Ret.mk ⟨rfl, rfl⟩

/-- The fields that Set makes. -/
def setM (xs : List (List UInt8)) (i : Nat) (s : List UInt8) : List (List UInt8) := (xs ++ List.replicate (i - xs.length) []).set (i - 1) s
theorem set_any (h : Rec w r l xs) (i : Int) (hi : -9223372036854775808 ≤ i ∧ i ≤ 9223372036854775807) (hx : xs.length ≤ 1000000) (s ofs : List UInt8)
    (hlen : ∀ y ∈ xs, y.length ≤ 1000000) (hs : s.length ≤ 1000000) (ho' : ofs.length ≤ 1000) : 
    Calls Try.prog 38 #[.pointer (some ⟨r, 0, none⟩), .int .i64 i, .string (B s), .string (B ofs)] w fun e w' =>
      if i < 1 ∨ ¬ i ≤ max 1000 (xs.length : Int) then e = .returned (.bool false) ∧ w = w' else
        e = .returned (.bool true) ∧ Rec w' r (Lib.join (setM xs i.toNat s) ofs) (setM xs i.toNat s) ∧ Kp (· = r) w w' := by
  have hrec := h
  obtain ⟨A, c, hb, ho⟩ := h
  have hlt := hb.lt
  refine enter (n := 51) (args := [.pointer (some ⟨r, 0, none⟩), .int .i64 i, .string (B s), .string (B ofs)]) Try.func38 rfl rfl rfl (by simp) ?_
  rcases Bool.eq_false_or_eq_true (decide (i < 1)) with h1 | h1
  · repeat (first | refine Wp.seq ?_ | refine Wp.block ?_ | refine Wp.condT rfl ?_ | refine Wp.condF rfl ?_ | ((first | refine Wp.region rfl ?_ | refine Wp.skip ?_ | refine Wp.ret ?_ | refine Wp.exit ?_); simp -dsimp (maxSteps := 2000000) (disch := first | omega | ((repeat (first | rw [sz_drew] | rw [World.size_alloc] | rw [World.size_setCell] | rw [setCells_cons] | rw [setCells_nil])); first | done | omega) | fail) only [push_cast, ↓upd_at, ↓reduceIte, Nat.reduceEqDiff, Nat.reduceAdd, Nat.reduceMul, Nat.reduceSub, Nat.reduceLeDiff, Int.reduceToNat, reduceCtorEq, eq_self, beq_self_eq_true, h1]) | refine And.intro (by first | omega | (simp only [List.length_append, List.length_cons, List.length_nil]; omega)) ?_)
    have h1' := of_decide_eq_true h1
    refine Ret.mk ?_
    rw [if_pos (.inl h1')]
    exact ⟨rfl, rfl⟩
  have h1' := of_decide_eq_false h1
  repeat (first | refine Wp.seq ?_ | refine Wp.block ?_ | refine Wp.condT rfl ?_ | refine Wp.condF rfl ?_ | ((first | refine Wp.region rfl ?_ | refine Wp.skip ?_ | refine Wp.ret ?_ | refine Wp.exit ?_); simp -dsimp (maxSteps := 2000000) (disch := first | omega | ((repeat (first | rw [sz_drew] | rw [World.size_alloc] | rw [World.size_setCell] | rw [setCells_cons] | rw [setCells_nil])); first | done | omega) | fail) only [push_cast, ↓upd_at, ↓reduceIte, Nat.reduceEqDiff, Nat.reduceAdd, Nat.reduceMul, Nat.reduceSub, Nat.reduceLeDiff, Int.reduceToNat, reduceCtorEq, eq_self, beq_self_eq_true, h1]) | refine And.intro (by first | omega | (simp only [List.length_append, List.length_cons, List.length_nil]; omega)) ?_)
  refine CallV.of isCall_67 (room_any hrec i) ?_
  rintro _ _ ⟨rfl, rfl⟩
  rcases Bool.eq_false_or_eq_true (decide (i ≤ max 1000 (xs.length : Int))) with h2 | h2
  · have h2' := of_decide_eq_true h2
    try (simp -dsimp (maxSteps := 2000000) (disch := first | omega | ((repeat (first | rw [sz_drew] | rw [World.size_alloc] | rw [World.size_setCell] | rw [setCells_cons] | rw [setCells_nil])); first | done | omega) | fail) only [push_cast, ↓upd_at, ↓reduceIte, Nat.reduceEqDiff, Nat.reduceAdd, Nat.reduceMul, Nat.reduceSub, Nat.reduceLeDiff, Int.reduceToNat, reduceCtorEq, eq_self, beq_self_eq_true, h1, h2, hb.rdc])
    repeat (first | refine Wp.seq ?_ | refine Wp.block ?_ | refine Wp.condT rfl ?_ | refine Wp.condF rfl ?_ | ((first | refine Wp.region rfl ?_ | refine Wp.skip ?_ | refine Wp.ret ?_ | refine Wp.exit ?_); simp -dsimp (maxSteps := 2000000) (disch := first | omega | ((repeat (first | rw [sz_drew] | rw [World.size_alloc] | rw [World.size_setCell] | rw [setCells_cons] | rw [setCells_nil])); first | done | omega) | fail) only [push_cast, ↓upd_at, ↓reduceIte, Nat.reduceEqDiff, Nat.reduceAdd, Nat.reduceMul, Nat.reduceSub, Nat.reduceLeDiff, Int.reduceToNat, reduceCtorEq, eq_self, beq_self_eq_true, h1, h2, hb.rdc]) | refine And.intro (by first | omega | (simp only [List.length_append, List.length_cons, List.length_nil]; omega)) ?_)
    generalize hM : (max i (xs.length : Int)).toNat = M
    have hM1 : xs.length ≤ M := by omega
    have hM2 : i.toNat ≤ M := by omega
    have hM3 : M ≤ 1000000 := by omega
    have hM4 : M = xs.length + (i.toNat - xs.length) := by omega
    have hZ : zeros [Value.string (B [])] M = St (List.replicate M []) := by rw [zeros_one]; simp [St]
    rw [hZ]
    have hbn := Blk.new w 9 (St (List.replicate M []))
    refine V_copy _ _ _ _ rfl se_54 rfl hbn (by simp [St]) rfl rfl (ho.alloc _).Txt (by omega) ?_
    intro w1 hk1 hb1
    have hb0 : Blk w1 r 116 [.string (B l), .slice A xs.length c] := hk1.Blk (hb.alloc _) (by show r ≠ w.heap.size; omega)
    have hlt1 := hb1.lt
    have hlt0 := hb0.lt
    have hj : (i - 1).toNat < M := by omega
    have hcs : St xs ++ List.drop xs.length (St (List.replicate M [])) = St (xs ++ List.replicate (i.toNat - xs.length) []) := by
      rw [St_append]; congr 1; rw [hM4]; simp [St]
    rw [hcs] at hb1
    generalize hys : xs ++ List.replicate (i.toNat - xs.length) [] = ys at hb1
    have hyl : ys.length = M := by rw [← hys]; simp; omega
    have hcell : rdc w1 w.heap.size (i - 1).toNat = some (.string (B (ys[(i - 1).toNat]'(by omega)))) := by rw [hb1.rdc, St_get, List.getElem?_eq_getElem (by omega)]; rfl
    have hwrap : IntKind.i64.wrap (i - 1) = i - 1 := wrap_id (by omega)
    try (simp -dsimp (maxSteps := 2000000) (disch := first | omega | ((repeat (first | rw [sz_drew] | rw [World.size_alloc] | rw [World.size_setCell] | rw [setCells_cons] | rw [setCells_nil])); first | done | omega) | fail) only [push_cast, ↓upd_at, ↓reduceIte, Nat.reduceEqDiff, Nat.reduceAdd, Nat.reduceMul, Nat.reduceSub, Nat.reduceLeDiff, Int.reduceToNat, reduceCtorEq, eq_self, beq_self_eq_true, h1, h2, hb0.rdc, hwrap, hcell, hb1.fz])
    repeat (first | refine Wp.seq ?_ | refine Wp.block ?_ | refine Wp.condT rfl ?_ | refine Wp.condF rfl ?_ | ((first | refine Wp.region rfl ?_ | refine Wp.skip ?_ | refine Wp.ret ?_ | refine Wp.exit ?_); simp -dsimp (maxSteps := 2000000) (disch := first | omega | ((repeat (first | rw [sz_drew] | rw [World.size_alloc] | rw [World.size_setCell] | rw [setCells_cons] | rw [setCells_nil])); first | done | omega) | fail) only [push_cast, ↓upd_at, ↓reduceIte, Nat.reduceEqDiff, Nat.reduceAdd, Nat.reduceMul, Nat.reduceSub, Nat.reduceLeDiff, Int.reduceToNat, reduceCtorEq, eq_self, beq_self_eq_true, h1, h2, hb0.rdc, hwrap, hcell, hb1.fz]) | refine And.intro (by first | omega | (simp only [List.length_append, List.length_cons, List.length_nil]; omega)) ?_)
    have hb2 := hb1.set (i - 1).toNat (.string (B s))
    have hst : (St ys).set (i - 1).toNat (.string (B s)) = St (setM xs i.toNat s) := by
      unfold setM; rw [hys]; simp [St, List.map_set]
    rw [hst] at hb2
    have hb3 := hb0.far (p := ⟨w.heap.size, (i - 1).toNat, none⟩) (by simp; omega) (.string (B s))
    generalize hw2 : w1.setCell ⟨w.heap.size, (i - 1).toNat, none⟩ (.string (B s)) = w2 at *
    generalize hzs : setM xs i.toNat s = zs at *
    have hzl : zs.length = M := by rw [← hzs, setM, hys]; simp [hyl]
    have hjoin : (Lib.join zs ofs).length ≤ 140737488355328 := by
      have h1 := join_le zs ofs 1000000 1000 (fun y hy => by
        rw [← hzs] at hy
        rcases List.mem_or_eq_of_mem_set hy with hy | rfl
        · rw [hys, ← hys] at hy
          rcases List.mem_append.1 hy with hy | hy
          · exact hlen y hy
          · simp [List.eq_of_mem_replicate hy]
        · exact hs) ho'
      omega
    have hj := Try.strings_Join w.heap.size 0 M (zs.map B) (B ofs) w2 (fun j x hx => by
      rw [Nat.zero_add]; change rdc w2 _ _ = _; rw [hb2.rdc, St_get]; simp at hx; obtain ⟨y, hy, rfl⟩ := hx; rw [hy]; rfl) hb2.lt (by simp; omega) (by simp; omega) (by simpa [B_toList, Function.comp_def] using hjoin)
    simp only [List.length_map, hzl, List.map_map, Function.comp_def, B_toList, List.map_id'] at hj
    refine CallV.of isCall_68 hj ?_
    rintro _ w3 ⟨rfl, hbel⟩
    have hb4 : Blk w3 r 116 [.string (B l), .slice A xs.length c] := hb3.keep (hbel.block _ hb3.lt)
    have hb5 := (hb4.set 1 (.slice (some ⟨w.heap.size, 0, none⟩) M M)).set 0 (.string (B (Lib.join zs ofs)))
    have hlt4 := hb4.lt
    try (simp -dsimp (maxSteps := 2000000) (disch := first | omega | ((repeat (first | rw [sz_drew] | rw [World.size_alloc] | rw [World.size_setCell] | rw [setCells_cons] | rw [setCells_nil])); first | done | omega) | fail) only [push_cast, ↓upd_at, ↓reduceIte, Nat.reduceEqDiff, Nat.reduceAdd, Nat.reduceMul, Nat.reduceSub, Nat.reduceLeDiff, Int.reduceToNat, reduceCtorEq, eq_self, beq_self_eq_true, h1, h2, hb4.rdc, hb4.fz])
    repeat (first | refine Wp.seq ?_ | refine Wp.block ?_ | refine Wp.condT rfl ?_ | refine Wp.condF rfl ?_ | ((first | refine Wp.region rfl ?_ | refine Wp.skip ?_ | refine Wp.ret ?_ | refine Wp.exit ?_); simp -dsimp (maxSteps := 2000000) (disch := first | omega | ((repeat (first | rw [sz_drew] | rw [World.size_alloc] | rw [World.size_setCell] | rw [setCells_cons] | rw [setCells_nil])); first | done | omega) | fail) only [push_cast, ↓upd_at, ↓reduceIte, Nat.reduceEqDiff, Nat.reduceAdd, Nat.reduceMul, Nat.reduceSub, Nat.reduceLeDiff, Int.reduceToNat, reduceCtorEq, eq_self, beq_self_eq_true, h1, h2, hb4.rdc, hb4.fz]) | refine And.intro (by first | omega | (simp only [List.length_append, List.length_cons, List.length_nil]; omega)) ?_)
    refine Ret.mk ?_
    rw [if_neg (by omega)]
    refine ⟨rfl, ?_, ?_⟩
    · refine ⟨some ⟨w.heap.size, 0, none⟩, M, by rw [hzl]; exact hb5, ?_⟩
      rw [hzl]
      have hlt2 := hb2.lt
      have ho3 : Own w3 9 1 (some ⟨w.heap.size, 0, none⟩) M M (St zs) := (Blk.own (hb2.keep (hbel.block _ hb2.lt)) (by simp [St, hzl]) (by unfold maxLen; omega))
      have hne : bk (some ⟨w.heap.size, 0, none⟩) ≠ some r := by simp [bk]; omega
      exact (ho3.far (p := ⟨r, 1, none⟩) hne _).far (p := ⟨r, 0, none⟩) hne _
    · have k1 : Kp (· = r) w w1 := ((Kp.refl (· = r) w).alloc _).trans' hk1 (fun k hk he => by omega)
      have k2 : Kp (· = r) w w2 := hw2 ▸ k1.setCell (fun h => by simp at h) _
      have k3 : Kp (· = r) w w3 := k2.trans' (⟨hbel.os, hbel.tape, hbel.output, hbel.size, fun k hk _ => hbel.block k hk⟩ : Kp (fun _ => False) w2 w3) (fun _ _ h => h.elim)
      exact (k3.setCell (fun _ => rfl) _).setCell (fun _ => rfl) _
  · have h2' := of_decide_eq_false h2
    try (simp -dsimp (maxSteps := 2000000) (disch := first | omega | ((repeat (first | rw [sz_drew] | rw [World.size_alloc] | rw [World.size_setCell] | rw [setCells_cons] | rw [setCells_nil])); first | done | omega) | fail) only [push_cast, ↓upd_at, ↓reduceIte, Nat.reduceEqDiff, Nat.reduceAdd, Nat.reduceMul, Nat.reduceSub, Nat.reduceLeDiff, Int.reduceToNat, reduceCtorEq, eq_self, beq_self_eq_true, h1, h2])
    repeat (first | refine Wp.seq ?_ | refine Wp.block ?_ | refine Wp.condT rfl ?_ | refine Wp.condF rfl ?_ | ((first | refine Wp.region rfl ?_ | refine Wp.skip ?_ | refine Wp.ret ?_ | refine Wp.exit ?_); simp -dsimp (maxSteps := 2000000) (disch := first | omega | ((repeat (first | rw [sz_drew] | rw [World.size_alloc] | rw [World.size_setCell] | rw [setCells_cons] | rw [setCells_nil])); first | done | omega) | fail) only [push_cast, ↓upd_at, ↓reduceIte, Nat.reduceEqDiff, Nat.reduceAdd, Nat.reduceMul, Nat.reduceSub, Nat.reduceLeDiff, Int.reduceToNat, reduceCtorEq, eq_self, beq_self_eq_true, h1, h2]) | refine And.intro (by first | omega | (simp only [List.length_append, List.length_cons, List.length_nil]; omega)) ?_)
    refine Ret.mk ?_
    rw [if_pos (.inr h2')]
    exact ⟨rfl, rfl⟩
end
end Go.Proofs.Ytddichibegppjaa
