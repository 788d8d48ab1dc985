/- Records: small methods. -/
import Derived.Test.YtddichibegppjaaFacts
import Derived.Test.YtddichibegppjaaVn
import Derived.Test.YtddichibegppjaaShelf
import Derived.Test.YtddichibegppjaaVs
import Derived.Test.YtddichibegppjaaP1
import Derived.Test.YtddichibegppjaaP2
set_option linter.unusedSimpArgs false
set_option linter.unusedVariables false
set_option maxRecDepth 100000
set_option maxHeartbeats 8000000
attribute [local irreducible] Go.VC.OpV Go.VC.CallV Go.VC.Wp Go.VC.post
namespace Go.Proofs.Ytddichibegppjaa
open Go Go.VC

theorem Blk.own {w : World} {g e n sz : Nat} {cs : List Value} (h : Blk w g e cs) (hl : cs.length = n * sz) (hm : n ≤ maxLen) : Own w e sz (some ⟨g, 0, none⟩) n n cs :=
  Own.mk' h (Nat.le_refl _) hm (by simpa using hl) (by simp [← hl])

theorem join_le (xs : List (List UInt8)) (sep : List UInt8) (m k : Nat) (h : ∀ y ∈ xs, y.length ≤ m) (hs : sep.length ≤ k) : (Lib.join xs sep).length ≤ xs.length * (m + k) := by
  cases xs with
  | nil => simp [Lib.join_nil]
  | cons x r =>
    rw [Lib.join_cons, List.length_append]
    have h1 := h x (by simp)
    have h2 : (Lib.joinTail sep r).length ≤ r.length * (m + k) := by
      have h3 : ∀ y ∈ r, y.length ≤ m := fun y hy => h y (by simp [hy])
      clear h h1
      induction r with
      | nil => simp [Lib.joinTail]
      | cons y r ih =>
        have := ih (fun z hz => h3 z (by simp [hz]))
        have h4 := h3 y (by simp)
        simp [Lib.joinTail] at this ⊢
        rw [Nat.add_mul]
        omega
    simp [Nat.add_mul]
    omega

/-- A line, and its fields. -/
def Rec (w : World) (r : Nat) (l : List UInt8) (xs : List (List UInt8)) : Prop :=
  ∃ A c, Blk w r 116 [.string (B l), .slice A xs.length c] ∧ Own w 9 1 A xs.length c (St xs)

def ptr (r : Nat) : Value := .pointer (some ⟨r, 0, none⟩)
section
variable {r : Nat} {l : List UInt8} {xs : List (List UInt8)} {w w' : World}

theorem Rec.Kp (h : Rec w r l xs) (hk : VC.Kp (fun _ => False) w w') : Rec w' r l xs := by
  obtain ⟨A, c, hb, ho⟩ := h
  exact ⟨A, c, hk.Blk hb id, ho.Kp hk fun _ _ => id⟩

theorem line_any (h : Rec w r l xs) : Calls Try.prog 39 #[.pointer (some ⟨r, 0, none⟩)] w fun e w' => e = .returned (.string (B l)) ∧ w = w' := by
  obtain ⟨A, c, hb, ho⟩ := h
  have hlt := hb.lt
  refine enter (n := 9) (args := [.pointer (some ⟨r, 0, none⟩)]) Try.func39 rfl rfl rfl (by simp) ?_
  repeat (first | refine qS ?_ | refine qB ?_ | refine qT rfl ?_ | refine qF rfl ?_ | ((first | refine qR rfl ?_ | refine qK ?_ | refine qE ?_ | refine qW ?_ | refine qM ?_); try simp -dsimp (disch := first | omega | (simp only [qZ] <;> omega) | fail) only [push_cast, ↓qP, ↓reduceIte, seval, hb.rdc]) | (refine qA ?_ ?_; (first | omega | (simp only [qL]; omega) | (simp only [qD] at *; omega))))
  exact Ret.mk ⟨rfl, rfl⟩

theorem nf_any (h : Rec w r l xs) : Calls Try.prog 40 #[.pointer (some ⟨r, 0, none⟩)] w fun e w' => e = .returned (.int .i64 xs.length) ∧ w = w' := by
  obtain ⟨A, c, hb, ho⟩ := h
  have hlt := hb.lt
  refine enter (n := 10) (args := [.pointer (some ⟨r, 0, none⟩)]) Try.func40 rfl rfl rfl (by simp) ?_
  repeat (first | refine qS ?_ | refine qB ?_ | refine qT rfl ?_ | refine qF rfl ?_ | ((first | refine qR rfl ?_ | refine qK ?_ | refine qE ?_ | refine qW ?_ | refine qM ?_); try simp -dsimp (disch := first | omega | (simp only [qZ] <;> omega) | fail) only [push_cast, ↓qP, ↓reduceIte, seval, hb.rdc]) | (refine qA ?_ ?_; (first | omega | (simp only [qL]; omega) | (simp only [qD] at *; omega))))
  exact Ret.mk ⟨rfl, rfl⟩

theorem room_any (h : Rec w r l xs) (n : Int) : Calls Try.prog 67 #[.pointer (some ⟨r, 0, none⟩), .int .i64 n] w fun e w' => e = .returned (.bool (decide (n ≤ max 1000 (xs.length : Int)))) ∧ w = w' := by
  obtain ⟨A, c, hb, ho⟩ := h
  have hlt := hb.lt
  refine enter (n := 13) (args := [.pointer (some ⟨r, 0, none⟩), .int .i64 n]) Try.func67 rfl rfl rfl (by simp) ?_
  repeat (first | refine qS ?_ | refine qB ?_ | refine qT rfl ?_ | refine qF rfl ?_ | ((first | refine qR rfl ?_ | refine qK ?_ | refine qE ?_ | refine qW ?_ | refine qM ?_); try simp -dsimp (disch := first | omega | (simp only [qZ] <;> omega) | fail) only [push_cast, ↓qP, ↓reduceIte, seval, hb.rdc]) | (refine qA ?_ ?_; (first | omega | (simp only [qL]; omega) | (simp only [qD] at *; omega))))
  exact Ret.mk ⟨rfl, rfl⟩

/-- What Get answers. -/
def getM (l : List UInt8) (xs : List (List UInt8)) (i : Int) : List UInt8 × Bool :=
  if i < 0 then ([], false) else if i = 0 then (l, true) else if i ≤ xs.length then (xs.getD (i - 1).toNat [], true) else ([], decide (i ≤ 1000))

theorem get_any (h : Rec w r l xs) (i : Int) (hi : -9223372036854775808 ≤ i ∧ i ≤ 9223372036854775807) (hx : xs.length ≤ 1000000) : Calls Try.prog 44 #[.pointer (some ⟨r, 0, none⟩), .int .i64 i] w fun e w' => e = .returned (.tuple #[.string (B (getM l xs i).1), .bool (getM l xs i).2]) ∧ w = w' := by
  obtain ⟨A, c, hb, ho⟩ := h
  have hlt := hb.lt
  refine enter (n := 38) (args := [.pointer (some ⟨r, 0, none⟩), .int .i64 i]) Try.func44 rfl rfl rfl (by simp) ?_
  rcases Bool.eq_false_or_eq_true (decide (i < 0)) with h1 | h1
  · repeat (first | refine qS ?_ | refine qB ?_ | refine qT rfl ?_ | refine qF rfl ?_ | ((first | refine qR rfl ?_ | refine qK ?_ | refine qE ?_ | refine qW ?_ | refine qM ?_); try simp -dsimp (disch := first | omega | (simp only [qZ] <;> omega) | fail) only [push_cast, ↓qP, ↓reduceIte, seval, hb.rdc, h1]) | (refine qA ?_ ?_; (first | omega | (simp only [qL]; omega) | (simp only [qD] at *; omega))))
    have e : getM l xs i = ([], false) := by simp at h1; simp [getM, h1]
    rw [e]
    exact Ret.mk ⟨rfl, rfl⟩
  have h1' := of_decide_eq_false h1
  rcases Bool.eq_false_or_eq_true (i == 0) with h2 | h2
  · repeat (first | refine qS ?_ | refine qB ?_ | refine qT rfl ?_ | refine qF rfl ?_ | ((first | refine qR rfl ?_ | refine qK ?_ | refine qE ?_ | refine qW ?_ | refine qM ?_); try simp -dsimp (disch := first | omega | (simp only [qZ] <;> omega) | fail) only [push_cast, ↓qP, ↓reduceIte, seval, hb.rdc, h1, h2]) | (refine qA ?_ ?_; (first | omega | (simp only [qL]; omega) | (simp only [qD] at *; omega))))
    have e : getM l xs i = (l, true) := by simp at h2; simp [getM, h1', h2]
    rw [e]
    exact Ret.mk ⟨rfl, rfl⟩
  have h2' : i ≠ 0 := by simpa using h2
  rcases Bool.eq_false_or_eq_true (decide (i ≤ (xs.length : Int))) with h3 | h3
  · have h3' := of_decide_eq_true h3
    have hj : (i - 1).toNat < xs.length := by omega
    obtain ⟨g, rfl, hg, _⟩ := ho.some (by omega)
    have hr := ho.rdc (i - 1).toNat (by omega)
    rw [St_get, List.getElem?_eq_getElem hj] at hr
    simp only [Option.map_some] at hr
    repeat (first | refine qS ?_ | refine qB ?_ | refine qT rfl ?_ | refine qF rfl ?_ | ((first | refine qR rfl ?_ | refine qK ?_ | refine qE ?_ | refine qW ?_ | refine qM ?_); try simp -dsimp (disch := first | omega | (simp only [qZ] <;> omega) | fail) only [push_cast, ↓qP, ↓reduceIte, seval, hb.rdc, h1, h2, h3, hr]) | (refine qA ?_ ?_; (first | omega | (simp only [qL]; omega) | (simp only [qD] at *; omega))))
    have e : getM l xs i = (xs[(i - 1).toNat], true) := by unfold getM; rw [if_neg h1', if_neg h2', if_pos h3', List.getD_eq_getElem?_getD, List.getElem?_eq_getElem hj]; rfl
    rw [e]
    exact Ret.mk ⟨rfl, rfl⟩
  · have h3' := of_decide_eq_false h3
    repeat (first | refine qS ?_ | refine qB ?_ | refine qT rfl ?_ | refine qF rfl ?_ | ((first | refine qR rfl ?_ | refine qK ?_ | refine qE ?_ | refine qW ?_ | refine qM ?_); try simp -dsimp (disch := first | omega | (simp only [qZ] <;> omega) | fail) only [push_cast, ↓qP, ↓reduceIte, seval, hb.rdc, h1, h2, h3]) | (refine qA ?_ ?_; (first | omega | (simp only [qL]; omega) | (simp only [qD] at *; omega))))
    have e : getM l xs i = ([], decide (i ≤ 1000)) := by simp [getM, h1', h2', h3']
    rw [e]
    exact Ret.mk ⟨rfl, rfl⟩

/-- The fields that Set makes. -/
def setM (xs : List (List UInt8)) (i : Nat) (s : List UInt8) : List (List UInt8) := (xs ++ List.replicate (i - xs.length) []).set (i - 1) s
theorem set_any (h : Rec w r l xs) (i : Int) (hi : -9223372036854775808 ≤ i ∧ i ≤ 9223372036854775807) (hx : xs.length ≤ 1000000) (s ofs : List UInt8)
    (hlen : ∀ y ∈ xs, y.length ≤ 1000000) (hs : s.length ≤ 1000000) (ho' : ofs.length ≤ 1000) : 
    Calls Try.prog 38 #[.pointer (some ⟨r, 0, none⟩), .int .i64 i, .string (B s), .string (B ofs)] w fun e w' =>
      if i < 1 ∨ ¬ i ≤ max 1000 (xs.length : Int) then e = .returned (.bool false) ∧ w = w' else
        e = .returned (.bool true) ∧ Rec w' r (Lib.join (setM xs i.toNat s) ofs) (setM xs i.toNat s) ∧ Kp (· = r) w w' := by
  have hrec := h
  obtain ⟨A, c, hb, ho⟩ := h
  have hlt := hb.lt
  refine enter (n := 51) (args := [.pointer (some ⟨r, 0, none⟩), .int .i64 i, .string (B s), .string (B ofs)]) Try.func38 rfl rfl rfl (by simp) ?_
  rcases Bool.eq_false_or_eq_true (decide (i < 1)) with h1 | h1
  · repeat (first | refine qS ?_ | refine qB ?_ | refine qT rfl ?_ | refine qF rfl ?_ | ((first | refine qR rfl ?_ | refine qK ?_ | refine qE ?_ | refine qW ?_ | refine qM ?_); try simp -dsimp (disch := first | omega | (simp only [qZ] <;> omega) | fail) only [push_cast, ↓qP, ↓reduceIte, seval, h1]) | (refine qA ?_ ?_; (first | omega | (simp only [qL]; omega) | (simp only [qD] at *; omega))))
    have h1' := of_decide_eq_true h1
    refine Ret.mk ?_
    rw [if_pos (.inl h1')]
    exact ⟨rfl, rfl⟩
  have h1' := of_decide_eq_false h1
  repeat (first | refine qS ?_ | refine qB ?_ | refine qT rfl ?_ | refine qF rfl ?_ | ((first | refine qR rfl ?_ | refine qK ?_ | refine qE ?_ | refine qW ?_ | refine qM ?_); try simp -dsimp (disch := first | omega | (simp only [qZ] <;> omega) | fail) only [push_cast, ↓qP, ↓reduceIte, seval, h1]) | (refine qA ?_ ?_; (first | omega | (simp only [qL]; omega) | (simp only [qD] at *; omega))))
  refine CallV.of isCall_67 (room_any hrec i) ?_
  rintro _ _ ⟨rfl, rfl⟩
  rcases Bool.eq_false_or_eq_true (decide (i ≤ max 1000 (xs.length : Int))) with h2 | h2
  · have h2' := of_decide_eq_true h2
    refine Sm.out ?_
    repeat (first | refine qS ?_ | refine qB ?_ | refine qT rfl ?_ | refine qF rfl ?_ | ((first | refine qR rfl ?_ | refine qK ?_ | refine qE ?_ | refine qW ?_ | refine qM ?_); try simp -dsimp (disch := first | omega | (simp only [qZ] <;> omega) | fail) only [push_cast, ↓qP, ↓reduceIte, seval, h1, h2, hb.rdc]) | (refine qA ?_ ?_; (first | omega | (simp only [qL]; omega) | (simp only [qD] at *; omega))))
    generalize hM : (max i (xs.length : Int)).toNat = M
    have hM1 : xs.length ≤ M := by omega
    have hM2 : i.toNat ≤ M := by omega
    have hM3 : M ≤ 1000000 := by omega
    have hM4 : M = xs.length + (i.toNat - xs.length) := by omega
    have hZ : zeros [Value.string (B [])] M = St (List.replicate M []) := by rw [zeros_one]; simp [St]
    rw [hZ]
    have hbn := Blk.new w 9 (St (List.replicate M []))
    refine V_copy _ _ _ _ rfl se_54 rfl hbn (by simp [St]) rfl rfl (ho.alloc _).Txt (by omega) ?_
    intro w1 hk1 hb1
    have hb0 : Blk w1 r 116 [.string (B l), .slice A xs.length c] := hk1.Blk (hb.alloc _) (by show r ≠ w.heap.size; omega)
    have hlt1 := hb1.lt
    have hlt0 := hb0.lt
    have hj : (i - 1).toNat < M := by omega
    have hcs : St xs ++ List.drop xs.length (St (List.replicate M [])) = St (xs ++ List.replicate (i.toNat - xs.length) []) := by
      rw [St_append]; congr 1; rw [hM4]; simp [St]
    rw [hcs] at hb1
    generalize hys : xs ++ List.replicate (i.toNat - xs.length) [] = ys at hb1
    have hyl : ys.length = M := by rw [← hys]; simp; omega
    have hcell : rdc w1 w.heap.size (i - 1).toNat = some (.string (B (ys[(i - 1).toNat]'(by omega)))) := by rw [hb1.rdc, St_get, List.getElem?_eq_getElem (by omega)]; rfl
    have hwrap : IntKind.i64.wrap (i - 1) = i - 1 := wrap_id (by omega)
    refine Sm.out ?_
    repeat (first | refine qS ?_ | refine qB ?_ | refine qT rfl ?_ | refine qF rfl ?_ | ((first | refine qR rfl ?_ | refine qK ?_ | refine qE ?_ | refine qW ?_ | refine qM ?_); try simp -dsimp (disch := first | omega | (simp only [qZ] <;> omega) | fail) only [push_cast, ↓qP, ↓reduceIte, seval, h1, h2, hb0.rdc, hwrap, hcell, hb1.fz]) | (refine qA ?_ ?_; (first | omega | (simp only [qL]; omega) | (simp only [qD] at *; omega))))
    have hb2 := hb1.set (i - 1).toNat (.string (B s))
    have hst : (St ys).set (i - 1).toNat (.string (B s)) = St (setM xs i.toNat s) := by
      unfold setM; rw [hys]; simp [St, List.map_set]
    rw [hst] at hb2
    have hb3 := hb0.far (p := ⟨w.heap.size, (i - 1).toNat, none⟩) (by simp; omega) (.string (B s))
    generalize hw2 : w1.setCell ⟨w.heap.size, (i - 1).toNat, none⟩ (.string (B s)) = w2 at *
    generalize hzs : setM xs i.toNat s = zs at *
    have hzl : zs.length = M := by rw [← hzs, setM, hys]; simp [hyl]
    have hjoin : (Lib.join zs ofs).length ≤ 140737488355328 := by
      have h1 := join_le zs ofs 1000000 1000 (fun y hy => by
        rw [← hzs] at hy
        rcases List.mem_or_eq_of_mem_set hy with hy | rfl
        · rw [hys, ← hys] at hy
          rcases List.mem_append.1 hy with hy | hy
          · exact hlen y hy
          · simp [List.eq_of_mem_replicate hy]
        · exact hs) ho'
      omega
    have hj := Try.strings_Join w.heap.size 0 M (zs.map B) (B ofs) w2 (fun j x hx => by
      rw [Nat.zero_add]; change rdc w2 _ _ = _; rw [hb2.rdc, St_get]; simp at hx; obtain ⟨y, hy, rfl⟩ := hx; rw [hy]; rfl) hb2.lt (by simp; omega) (by simp; omega) (by simpa [B_toList, Function.comp_def] using hjoin)
    simp only [List.length_map, hzl, List.map_map, Function.comp_def, B_toList, List.map_id'] at hj
    refine CallV.of isCall_68 hj ?_
    rintro _ w3 ⟨rfl, hbel⟩
    have hb4 : Blk w3 r 116 [.string (B l), .slice A xs.length c] := hb3.keep (hbel.block _ hb3.lt)
    have hb5 := (hb4.set 1 (.slice (some ⟨w.heap.size, 0, none⟩) M M)).set 0 (.string (B (Lib.join zs ofs)))
    have hlt4 := hb4.lt
    refine Sm.out ?_
    repeat (first | refine qS ?_ | refine qB ?_ | refine qT rfl ?_ | refine qF rfl ?_ | ((first | refine qR rfl ?_ | refine qK ?_ | refine qE ?_ | refine qW ?_ | refine qM ?_); try simp -dsimp (disch := first | omega | (simp only [qZ] <;> omega) | fail) only [push_cast, ↓qP, ↓reduceIte, seval, h1, h2, hb4.rdc, hb4.fz]) | (refine qA ?_ ?_; (first | omega | (simp only [qL]; omega) | (simp only [qD] at *; omega))))
    refine Ret.mk ?_
    rw [if_neg (by omega)]
    refine ⟨rfl, ?_, ?_⟩
    · refine ⟨some ⟨w.heap.size, 0, none⟩, M, by rw [hzl]; exact hb5, ?_⟩
      rw [hzl]
      have hlt2 := hb2.lt
      have ho3 : Own w3 9 1 (some ⟨w.heap.size, 0, none⟩) M M (St zs) := (Blk.own (hb2.keep (hbel.block _ hb2.lt)) (by simp [St, hzl]) (by unfold maxLen; omega))
      have hne : bk (some ⟨w.heap.size, 0, none⟩) ≠ some r := by simp [bk]; omega
      exact (ho3.far (p := ⟨r, 1, none⟩) hne _).far (p := ⟨r, 0, none⟩) hne _
    · have k1 : Kp (· = r) w w1 := ((Kp.refl (· = r) w).alloc _).trans' hk1 (fun k hk he => by omega)
      have k2 : Kp (· = r) w w2 := hw2 ▸ k1.setCell (fun h => by simp at h) _
      have k3 : Kp (· = r) w w3 := k2.trans' (⟨hbel.os, hbel.tape, hbel.output, hbel.size, fun k hk _ => hbel.block k hk⟩ : Kp (fun _ => False) w2 w3) (fun _ _ h => h.elim)
      exact (k3.setCell (fun _ => rfl) _).setCell (fun _ => rfl) _
  · have h2' := of_decide_eq_false h2
    refine Sm.out ?_
    repeat (first | refine qS ?_ | refine qB ?_ | refine qT rfl ?_ | refine qF rfl ?_ | ((first | refine qR rfl ?_ | refine qK ?_ | refine qE ?_ | refine qW ?_ | refine qM ?_); try simp -dsimp (disch := first | omega | (simp only [qZ] <;> omega) | fail) only [push_cast, ↓qP, ↓reduceIte, seval, h1, h2]) | (refine qA ?_ ?_; (first | omega | (simp only [qL]; omega) | (simp only [qD] at *; omega))))
    refine Ret.mk ?_
    rw [if_pos (.inr h2')]
    exact ⟨rfl, rfl⟩
end
end Go.Proofs.Ytddichibegppjaa

/- Same texts? -/
namespace Go.Proofs.Ytddichibegppjaa
open Go Go.VC

abbrev Kp0 := Kp (fun _ => False)
section
variable {xs ys : List (List UInt8)} {w : World} {A A' : Option Addr} {c c' : Nat}

theorem same10_any (hx : Txt w A xs) (hy : Txt w A' ys) (hn : xs.length ≤ 1000000) (hn' : ys.length ≤ 1000000) :
    Calls Try.prog 36 #[.slice A xs.length c, .slice A' ys.length c'] w fun e w' => e = .returned (.bool (decide (xs = ys))) ∧ Kp0 w w' := by
  refine enter (n := 26) (args := [.slice A xs.length c, .slice A' ys.length c']) Try.func36 rfl rfl rfl (by simp) ?_
  rcases Bool.eq_false_or_eq_true ((xs.length : Int) != (ys.length : Int)) with hl | hl
  · repeat (first | refine qS ?_ | refine qB ?_ | refine qT rfl ?_ | refine qF rfl ?_ | ((first | refine qR rfl ?_ | refine qK ?_ | refine qE ?_ | refine qW ?_ | refine qM ?_); try simp -dsimp (disch := first | omega | (simp only [qZ] <;> omega) | fail) only [push_cast, ↓qP, ↓reduceIte, seval, hl]) | (refine qA ?_ ?_; (first | omega | (simp only [qL]; omega) | (simp only [qD] at *; omega))))
    have : xs ≠ ys := by rintro rfl; simp at hl
    exact Ret.mk ⟨by simp [this], Kp.refl _ _⟩
  repeat (first | refine qS ?_ | refine qB ?_ | refine qT rfl ?_ | refine qF rfl ?_ | ((first | refine qR rfl ?_ | refine qK ?_ | refine qE ?_ | refine qW ?_ | refine qM ?_); try simp -dsimp (disch := first | omega | (simp only [qZ] <;> omega) | fail) only [push_cast, ↓qP, ↓reduceIte, seval, hl]) | (refine qA ?_ ?_; (first | omega | (simp only [qL]; omega) | (simp only [qD] at *; omega))))
  have hl' : xs.length = ys.length := by simp at hl; exact_mod_cast hl
  refine Wp.loop (α := Nat) (fun k F w1 => F 0 = .slice A xs.length c ∧ F 1 = .slice A' ys.length c' ∧ F 5 = .int .i64 k ∧ k ≤ xs.length ∧ Kp0 w w1 ∧ ∀ j, j < k → xs[j]? = ys[j]?) (fun k => xs.length - k) 0 ⟨rfl, rfl, rfl, by omega, Kp.refl _ _, fun _ h => by omega⟩ ?_
  rintro k F w1 ⟨h0, h1, h5, hk, hkp, heq⟩
  rcases Bool.eq_false_or_eq_true (decide ((k : Int) < (xs.length : Int))) with hd | hd
  · have hd' : k < xs.length := by simpa using hd
    obtain ⟨b, o, rfl, hb, hr⟩ := hx.form (by rintro rfl; simp at hd')
    obtain ⟨b', o', rfl, hb', hr'⟩ := hy.form (by rintro rfl; have : ([] : List (List UInt8)).length = 0 := rfl; omega)
    have e1 : rdc w1 b (o + k) = some (.string (B xs[k])) := by rw [hkp.rdc hb id]; exact hr k _ (List.getElem?_eq_getElem hd')
    have e2 : rdc w1 b' (o' + k) = some (.string (B (ys[k]'(by omega)))) := by rw [hkp.rdc hb' id]; exact hr' k _ (List.getElem?_eq_getElem (by omega))
    repeat (first | refine qS ?_ | refine qB ?_ | refine qT rfl ?_ | refine qF rfl ?_ | ((first | refine qR rfl ?_ | refine qK ?_ | refine qE ?_ | refine qW ?_ | refine qM ?_); try simp -dsimp (disch := first | omega | (simp only [qZ] <;> omega) | fail) only [push_cast, ↓qP, ↓reduceIte, seval, h0, h1, h5, hd]) | (refine qA ?_ ?_; (first | omega | (simp only [qL]; omega) | (simp only [qD] at *; omega))))
    refine Wp.draw [0, 0, 3, 7, 0, 0, 48, 112, 255] [] (.op 0 false false [] <| .op 1 false false [] <| .op 2 false false [] <| .op 3 false false [] <| .op 4 false false [] <| .op 5 false false [] <| .op 6 false false [] <| .op 7 false false [] <| .op 8 false false [] <| .nil) mixed (by kernel_rfl) ?_
    simp -dsimp (disch := first | omega | (simp only [qZ] <;> omega) | fail) only [push_cast, ↓qP, ↓reduceIte, seval, e1, e2, h0, h1, h5]
    refine ⟨by omega, by omega, ?_⟩
    rcases Bool.eq_false_or_eq_true (xs[k] == ys[k]'(by omega)) with he | he
    · have he' : (!xs[k] == ys[k]'(by omega)) = false := by simp [he]
      refine Sm.out ?_
      repeat (first | refine qS ?_ | refine qB ?_ | refine qT rfl ?_ | refine qF rfl ?_ | ((first | refine qR rfl ?_ | refine qK ?_ | refine qE ?_ | refine qW ?_ | refine qM ?_); try simp -dsimp (disch := first | omega | (simp only [qZ] <;> omega) | fail) only [push_cast, ↓qP, ↓reduceIte, seval, h0, h1, h5, he']) | (refine qA ?_ ?_; (first | omega | (simp only [qL]; omega) | (simp only [qD] at *; omega))))
      have hw : IntKind.i64.wrap ((k : Int) + 1) = ((k + 1 : Nat) : Int) := by rw [wrap_id (by omega)]; omega
      refine Again.mk (k + 1) ⟨?_, ?_, ?_, by omega, hkp.drew, ?_⟩ (by omega)
      · simp -dsimp (disch := first | omega | (simp only [qZ] <;> omega) | fail) only [push_cast, ↓qP, ↓reduceIte, seval, h0]
      · simp -dsimp (disch := first | omega | (simp only [qZ] <;> omega) | fail) only [push_cast, ↓qP, ↓reduceIte, seval, h1]
      · simp -dsimp (disch := first | omega | (simp only [qZ] <;> omega) | fail) only [push_cast, ↓qP, ↓reduceIte, seval, hw]
      · intro j hj
        rcases Nat.lt_or_ge j k with h | h
        · exact heq j h
        · obtain rfl : j = k := by omega
          rw [List.getElem?_eq_getElem hd', List.getElem?_eq_getElem (by omega)]
          simpa using he
    · have he' : (!xs[k] == ys[k]'(by omega)) = true := by simp [he]
      refine Sm.out ?_
      repeat (first | refine qS ?_ | refine qB ?_ | refine qT rfl ?_ | refine qF rfl ?_ | ((first | refine qR rfl ?_ | refine qK ?_ | refine qE ?_ | refine qW ?_ | refine qM ?_); try simp -dsimp (disch := first | omega | (simp only [qZ] <;> omega) | fail) only [push_cast, ↓qP, ↓reduceIte, seval, h0, h1, h5, he']) | (refine qA ?_ ?_; (first | omega | (simp only [qL]; omega) | (simp only [qD] at *; omega))))
      have : xs ≠ ys := by rintro rfl; simp at he
      exact Ret.mk ⟨by simp [this], hkp.drew⟩
  · have hd' : ¬ k < xs.length := by simpa using hd
    repeat (first | refine qS ?_ | refine qB ?_ | refine qT rfl ?_ | refine qF rfl ?_ | ((first | refine qR rfl ?_ | refine qK ?_ | refine qE ?_ | refine qW ?_ | refine qM ?_); try simp -dsimp (disch := first | omega | (simp only [qZ] <;> omega) | fail) only [push_cast, ↓qP, ↓reduceIte, seval, h0, h1, h5, hd]) | (refine qA ?_ ?_; (first | omega | (simp only [qL]; omega) | (simp only [qD] at *; omega))))
    have : xs = ys := List.ext_getElem? fun j => by
      rcases Nat.lt_or_ge j k with h | h
      · exact heq j h
      · rw [List.getElem?_eq_none (by omega), List.getElem?_eq_none (by omega)]
    exact Ret.mk ⟨by simp [this], hkp⟩
end
end Go.Proofs.Ytddichibegppjaa

/- Records: a nil one, SetNF, append of nothing. -/
namespace Go.VC
open Go
section
variable {P : Program} {w : World} {e sz n cap : Nat} {A : Option Addr} {xs : List Value}
/-- append of no element onto a slice of the call's own. -/
theorem V_append0 {o : Oper} {F : Fr} {K : Value → World → Prop} {X : List PanicEntry → World → Prop} {z : List Value} {by_ : Nat} (s x : Operand) (t : Nat)
    (ho : o.op = .call { callee := .builtin .append, args := #[s, x], argTypes := #[t, t] }) (hmk : mk P t = some (e, sz, by_, z))
    (hs : ev F s = .slice A n cap) (hown : Own w e sz A n cap xs) {A2 : Option Addr} {c : Nat} (hx : ev F x = .slice A2 0 c) (h : K (.slice A n cap) w) : OpV P o F w K X := by
  obtain ⟨inf, hu, hi, ⟨zv, hz, rfl⟩, hzl, hpos⟩ := mk_eq hmk
  have hn : n ≤ cap := by
    rcases hown.form with ⟨_, h1, h2, _⟩ | ⟨g, cur, _, _, h3, _⟩ <;> omega
  have hrun : (Builtin.append_ #[t, t] o.type #[.slice A n cap, .slice A2 0 c]).run P w = .ok (.slice A n cap) w := by
    cases A <;> cases A2 <;> simp [Builtin.append_, run_underlying hu, sizeOf, typeInfo, hi, Builtin.lenOf, Builtin.firstCells, loadCells, loadCellsFrom, storeCells, hn, Result.andThen]
  refine .of_run (w' := w) (v := .slice A n cap) ?_ h
  simp only [execOp, ho, resolve, invoke, builtin, Sem.run_bind, Sem.run_pure, Result.andThen_ok, List.map_toArray, List.map_cons, List.map_nil, hs, hx, hrun]
theorem Own.of_bk {g : Nat} (h : Own w e sz A n cap xs) (hg : bk A = .some g) : A = .some ⟨g, 0, none⟩ := by
  rcases h.form with ⟨rfl, _⟩ | ⟨g', cur, rfl, _⟩
  · simp [bk] at hg
  · simp [bk] at hg; subst hg; rfl
/-- copy, however many there are. -/
theorem V_copyM {o : Oper} {F : Fr} {K : Value → World → Prop} {X : List PanicEntry → World → Prop} (d s : Operand) (t t' : Nat) (ho : o.op = .call { callee := .builtin .copy, args := #[d, s], argTypes := #[t, t'] }) (hse : se P t = some (9, 1))
    {g dn dc n c : Nat} {A : Option Addr} {cs : List Value} {xs : List (List UInt8)} (hd : ev F d = .slice (some ⟨g, 0, none⟩) dn dc) (hb : Blk w g 9 cs) (hcs : cs.length = dn)
    (hs : ev F s = .slice A n c) (hn : n = xs.length) (hx : Txt w A xs)
    (h : ∀ w', Kp (· = g) w w' → Blk w' g 9 (St (xs.take dn) ++ cs.drop xs.length) → K (.int .i64 (xs.take dn).length) w') : OpV P o F w K X := by
  obtain ⟨hu, i, hi, h1⟩ : P.underlying t = some (.slice 9) ∧ ∃ i, P.info? 9 = some i ∧ i.size = 1 := by
    unfold se at hse
    split at hse
    · rename_i e he
      split at hse
      · rename_i i hi
        simp at hse
        obtain ⟨rfl, h1⟩ := hse
        exact ⟨he, i, hi, h1⟩
      · cases hse
    · cases hse
  have key : ∃ w', (Builtin.copy_ #[t, t'] o.type #[.slice (some ⟨g, 0, none⟩) dn dc, .slice A n c]).run P w = .ok (.int .i64 (xs.take dn).length) w' ∧ Kp (· = g) w w' ∧ Blk w' g 9 (St (xs.take dn) ++ cs.drop xs.length) := by
    rcases hx with rfl | ⟨b, q, rfl, hlt, hr⟩
    · simp at hn
      subst hn
      refine ⟨w, ?_, Kp.refl _ _, by simpa [St] using hb⟩
      simp [Builtin.copy_, run_underlying hu, Builtin.lenOf, Builtin.firstCells, sizeOf, typeInfo, hi, storeCells, goInt]
      cases A <;> simp [loadCells, loadCellsFrom, storeCells, Result.andThen]
    · have hlen : (St (xs.take dn)).length = Nat.min n dn := by rw [St_len, List.length_take, hn]; exact Nat.min_comm _ _
      have hle : (St (xs.take dn)).length ≤ dn := by rw [hlen]; exact Nat.min_le_right _ _
      have := run_copy_row (P := P) w t t' o.type 9 g 0 dn dc ⟨b, q, none⟩ n c cs.toArray 9 (St (xs.take dn)) hu (by simp [hi, h1]) hb hlen (fun j v hj => by
        rw [St_get] at hj
        cases hq : (xs.take dn)[j]? with
        | none => simp [hq] at hj
        | some x =>
          simp [hq] at hj; subst hj; rw [Addr.add_plain]
          rw [List.getElem?_take] at hq
          split at hq
          · exact hr j x hq
          · cases hq) (by simpa [hcs] using hle) (fun v hv => by have := List.all_eq_true.1 (St_one _) v hv; exact this)
      simp only [St_len, List.take_zero, List.nil_append, Nat.zero_add] at this
      have hdrop : cs.drop (xs.take dn).length = cs.drop xs.length := by
        rw [List.length_take]
        rcases Nat.le_total xs.length dn with h | h
        · rw [Nat.min_eq_right h]
        · rw [Nat.min_eq_left h, List.drop_eq_nil_of_le (by omega), List.drop_eq_nil_of_le (by omega)]
      rw [hdrop] at this
      refine ⟨_, this, (Kp.refl (· = g) w).setRow (fun _ => rfl) _, ?_⟩
      refine setRow_Blk hb ?_
      rw [List.length_append, St_len, List.length_drop, List.length_take, hcs]
      omega
  obtain ⟨w', hrun, hk, hblk⟩ := key
  refine .of_run (w' := w') (v := .int .i64 (xs.take dn).length) ?_ (h w' hk hblk)
  simp only [execOp, ho, resolve, invoke, builtin, Sem.run_bind, Sem.run_pure, Result.andThen_ok, List.map_toArray, List.map_cons, List.map_nil, hd, hs, hrun]
end
end Go.VC
namespace Go.Proofs.Ytddichibegppjaa
open Go Go.VC

theorem line_nil (w : World) : Calls Try.prog 39 #[.pointer none] w fun e w' => e = .returned (.string (B [])) ∧ w = w' := by
  refine enter (n := 9) (args := [.pointer none]) Try.func39 rfl rfl rfl (by simp) ?_
  repeat (first | refine qS ?_ | refine qB ?_ | refine qT rfl ?_ | refine qF rfl ?_ | ((first | refine qR rfl ?_ | refine qK ?_ | refine qE ?_ | refine qW ?_ | refine qM ?_); try simp -dsimp (disch := first | omega | (simp only [qZ] <;> omega) | fail) only [push_cast, ↓qP, ↓reduceIte, seval]) | (refine qA ?_ ?_; (first | omega | (simp only [qL]; omega) | (simp only [qD] at *; omega))))
  exact Ret.mk ⟨rfl, rfl⟩
theorem nf_nil (w : World) : Calls Try.prog 40 #[.pointer none] w fun e w' => e = .returned (.int .i64 0) ∧ w = w' := by
  refine enter (n := 10) (args := [.pointer none]) Try.func40 rfl rfl rfl (by simp) ?_
  repeat (first | refine qS ?_ | refine qB ?_ | refine qT rfl ?_ | refine qF rfl ?_ | ((first | refine qR rfl ?_ | refine qK ?_ | refine qE ?_ | refine qW ?_ | refine qM ?_); try simp -dsimp (disch := first | omega | (simp only [qZ] <;> omega) | fail) only [push_cast, ↓qP, ↓reduceIte, seval]) | (refine qA ?_ ?_; (first | omega | (simp only [qL]; omega) | (simp only [qD] at *; omega))))
  exact Ret.mk ⟨rfl, rfl⟩
theorem set_nil (w : World) (i : Int) (s ofs : List UInt8) : Calls Try.prog 38 #[.pointer none, .int .i64 i, .string (B s), .string (B ofs)] w fun e w' => e = .returned (.bool false) ∧ w = w' := by
  refine enter (n := 51) (args := [.pointer none, .int .i64 i, .string (B s), .string (B ofs)]) Try.func38 rfl rfl rfl (by simp) ?_
  repeat (first | refine qS ?_ | refine qB ?_ | refine qT rfl ?_ | refine qF rfl ?_ | ((first | refine qR rfl ?_ | refine qK ?_ | refine qE ?_ | refine qW ?_ | refine qM ?_); try simp -dsimp (disch := first | omega | (simp only [qZ] <;> omega) | fail) only [push_cast, ↓qP, ↓reduceIte, seval]) | (refine qA ?_ ?_; (first | omega | (simp only [qL]; omega) | (simp only [qD] at *; omega))))
  exact Ret.mk ⟨rfl, rfl⟩

/-- The fields that SetNF makes. -/
def nfM (xs : List (List UInt8)) (n : Nat) : List (List UInt8) := xs.take n ++ List.replicate (n - xs.length) []
theorem nfM_len (xs : List (List UInt8)) (n : Nat) : (nfM xs n).length = n := by simp [nfM]; omega
theorem nfM_mem {xs : List (List UInt8)} {n m : Nat} (h : ∀ y ∈ xs, y.length ≤ m) : ∀ y ∈ nfM xs n, y.length ≤ m := by
  intro y hy
  rcases List.mem_append.1 hy with hy | hy
  · exact h y (List.mem_of_mem_take hy)
  · simp [List.eq_of_mem_replicate hy]
theorem setM_len {xs : List (List UInt8)} {i : Nat} {s : List UInt8} : (setM xs i s).length = max xs.length i := by simp [setM]; omega
theorem setM_mem {xs : List (List UInt8)} {i m : Nat} {s : List UInt8} (h : ∀ y ∈ xs, y.length ≤ m) (hs : s.length ≤ m) : ∀ y ∈ setM xs i s, y.length ≤ m := by
  intro y hy
  rcases List.mem_or_eq_of_mem_set hy with hy | rfl
  · rcases List.mem_append.1 hy with hy | hy
    · exact h y hy
    · simp [List.eq_of_mem_replicate hy]
  · exact hs

section
variable {r : Nat} {l : List UInt8} {xs : List (List UInt8)} {w w' : World}
theorem snf_any (h : Rec w r l xs) (n : Int) (hn : -9223372036854775808 ≤ n ∧ n ≤ 9223372036854775807) (hx : xs.length ≤ 1000000) (ofs : List UInt8)
    (hlen : ∀ y ∈ xs, y.length ≤ 1000000) (ho' : ofs.length ≤ 1000) : 
    Calls Try.prog 42 #[.pointer (some ⟨r, 0, none⟩), .int .i64 n, .string (B ofs)] w fun e w' =>
      if n < 0 ∨ ¬ n ≤ max 1000 (xs.length : Int) then e = .returned (.bool false) ∧ w = w' else
        e = .returned (.bool true) ∧ Rec w' r (Lib.join (nfM xs n.toNat) ofs) (nfM xs n.toNat) ∧ Kp (· = r) w w' := by
  have hrec := h
  obtain ⟨A, c, hb, ho⟩ := h
  have hlt := hb.lt
  refine enter (n := 38) (args := [.pointer (some ⟨r, 0, none⟩), .int .i64 n, .string (B ofs)]) Try.func42 rfl rfl rfl (by simp) ?_
  rcases Bool.eq_false_or_eq_true (decide (n < 0)) with h1 | h1
  · repeat (first | refine qS ?_ | refine qB ?_ | refine qT rfl ?_ | refine qF rfl ?_ | ((first | refine qR rfl ?_ | refine qK ?_ | refine qE ?_ | refine qW ?_ | refine qM ?_); try simp -dsimp (disch := first | omega | (simp only [qZ] <;> omega) | fail) only [push_cast, ↓qP, ↓reduceIte, seval, h1]) | (refine qA ?_ ?_; (first | omega | (simp only [qL]; omega) | (simp only [qD] at *; omega))))
    have h1' := of_decide_eq_true h1
    refine Ret.mk ?_
    rw [if_pos (.inl h1')]
    exact ⟨rfl, rfl⟩
  have h1' := of_decide_eq_false h1
  repeat (first | refine qS ?_ | refine qB ?_ | refine qT rfl ?_ | refine qF rfl ?_ | ((first | refine qR rfl ?_ | refine qK ?_ | refine qE ?_ | refine qW ?_ | refine qM ?_); try simp -dsimp (disch := first | omega | (simp only [qZ] <;> omega) | fail) only [push_cast, ↓qP, ↓reduceIte, seval, h1]) | (refine qA ?_ ?_; (first | omega | (simp only [qL]; omega) | (simp only [qD] at *; omega))))
  refine CallV.of isCall_67 (room_any hrec n) ?_
  rintro _ _ ⟨rfl, rfl⟩
  rcases Bool.eq_false_or_eq_true (decide (n ≤ max 1000 (xs.length : Int))) with h2 | h2
  · have h2' := of_decide_eq_true h2
    obtain ⟨M, rfl⟩ : ∃ M : Nat, n = (M : Int) := ⟨n.toNat, by omega⟩
    have hM3 : M ≤ 1000000 := by omega
    refine Sm.out ?_
    repeat (first | refine qS ?_ | refine qB ?_ | refine qT rfl ?_ | refine qF rfl ?_ | ((first | refine qR rfl ?_ | refine qK ?_ | refine qE ?_ | refine qW ?_ | refine qM ?_); try simp -dsimp (disch := first | omega | (simp only [qZ] <;> omega) | fail) only [push_cast, ↓qP, ↓reduceIte, seval, h1, h2, hb.rdc]) | (refine qA ?_ ?_; (first | omega | (simp only [qL]; omega) | (simp only [qD] at *; omega))))
    have hZ : zeros [Value.string (B [])] M = St (List.replicate M []) := by rw [zeros_one]; simp [St]
    rw [hZ]
    have hbn := Blk.new w 9 (St (List.replicate M []))
    refine V_copyM _ _ _ _ rfl se_54 rfl hbn (by simp [St]) rfl rfl (ho.alloc _).Txt ?_
    intro w1 hk1 hb1
    have hb0 : Blk w1 r 116 [.string (B l), .slice A xs.length c] := hk1.Blk (hb.alloc _) (by show r ≠ w.heap.size; omega)
    have hlt1 := hb1.lt
    have hlt0 := hb0.lt
    have hcs : St (xs.take M) ++ List.drop xs.length (St (List.replicate M [])) = St (nfM xs M) := by
      rw [nfM, St_append]; congr 1; simp [St]
    rw [hcs] at hb1
    have hzl : (nfM xs M).length = M := nfM_len _ _
    have hzm := nfM_mem (n := M) hlen
    generalize hzs : nfM xs M = zs at *
    refine Sm.out ?_
    repeat (first | refine qS ?_ | refine qB ?_ | refine qT rfl ?_ | refine qF rfl ?_ | ((first | refine qR rfl ?_ | refine qK ?_ | refine qE ?_ | refine qW ?_ | refine qM ?_); try simp -dsimp (disch := first | omega | (simp only [qZ] <;> omega) | fail) only [push_cast, ↓qP, ↓reduceIte, seval, h1, h2, hb0.rdc]) | (refine qA ?_ ?_; (first | omega | (simp only [qL]; omega) | (simp only [qD] at *; omega))))
    have hjoin : (Lib.join zs ofs).length ≤ 140737488355328 := by
      have h1 := join_le zs ofs 1000000 1000 hzm ho'
      omega
    have hj := Try.strings_Join w.heap.size 0 M (zs.map B) (B ofs) w1 (fun j x hx => by
      rw [Nat.zero_add]; change rdc w1 _ _ = _; rw [hb1.rdc, St_get]; simp at hx; obtain ⟨y, hy, rfl⟩ := hx; rw [hy]; rfl) hb1.lt (by simp; omega) (by simp; omega) (by simpa [B_toList, Function.comp_def] using hjoin)
    simp only [List.length_map, hzl, List.map_map, Function.comp_def, B_toList, List.map_id'] at hj
    refine CallV.of isCall_68 hj ?_
    rintro _ w3 ⟨rfl, hbel⟩
    have hb4 : Blk w3 r 116 [.string (B l), .slice A xs.length c] := hb0.keep (hbel.block _ hb0.lt)
    have hb5 := (hb4.set 1 (.slice (some ⟨w.heap.size, 0, none⟩) M M)).set 0 (.string (B (Lib.join zs ofs)))
    have hlt4 := hb4.lt
    refine Sm.out ?_
    repeat (first | refine qS ?_ | refine qB ?_ | refine qT rfl ?_ | refine qF rfl ?_ | ((first | refine qR rfl ?_ | refine qK ?_ | refine qE ?_ | refine qW ?_ | refine qM ?_); try simp -dsimp (disch := first | omega | (simp only [qZ] <;> omega) | fail) only [push_cast, ↓qP, ↓reduceIte, seval, h1, h2, hb4.rdc, hb4.fz]) | (refine qA ?_ ?_; (first | omega | (simp only [qL]; omega) | (simp only [qD] at *; omega))))
    refine Ret.mk ?_
    rw [if_neg (by omega), Int.toNat_natCast, hzs]
    refine ⟨rfl, ?_, ?_⟩
    · refine ⟨some ⟨w.heap.size, 0, none⟩, M, by rw [hzl]; exact hb5, ?_⟩
      rw [hzl]
      have ho3 : Own w3 9 1 (some ⟨w.heap.size, 0, none⟩) M M (St zs) := (Blk.own (hb1.keep (hbel.block _ hb1.lt)) (by simp [St, hzl]) (by unfold maxLen; omega))
      have hne : bk (some ⟨w.heap.size, 0, none⟩) ≠ some r := by simp [bk]; omega
      exact (ho3.far (p := ⟨r, 1, none⟩) hne _).far (p := ⟨r, 0, none⟩) hne _
    · have k1 : Kp (· = r) w w1 := ((Kp.refl (· = r) w).alloc _).trans' hk1 (fun k hk he => by omega)
      have k3 : Kp (· = r) w w3 := k1.trans' (⟨hbel.os, hbel.tape, hbel.output, hbel.size, fun k hk _ => hbel.block k hk⟩ : Kp (fun _ => False) w1 w3) (fun _ _ h => h.elim)
      exact (k3.setCell (fun _ => rfl) _).setCell (fun _ => rfl) _
  · have h2' := of_decide_eq_false h2
    refine Sm.out ?_
    repeat (first | refine qS ?_ | refine qB ?_ | refine qT rfl ?_ | refine qF rfl ?_ | ((first | refine qR rfl ?_ | refine qK ?_ | refine qE ?_ | refine qW ?_ | refine qM ?_); try simp -dsimp (disch := first | omega | (simp only [qZ] <;> omega) | fail) only [push_cast, ↓qP, ↓reduceIte, seval, h1, h2]) | (refine qA ?_ ?_; (first | omega | (simp only [qL]; omega) | (simp only [qD] at *; omega))))
    refine Ret.mk ?_
    rw [if_pos (.inr h2')]
    exact ⟨rfl, rfl⟩
end
end Go.Proofs.Ytddichibegppjaa

/- Records: the reference's. -/
namespace Go.Proofs.Ytddichibegppjaa
open Go Go.VC

/-- append of all that another slice has. -/
theorem V_appendOwn {P : Program} {w : World} {n cap : Nat} {A : Option Addr} {ys : List Value} {o : Oper} {F : Fr} {K : Value → World → Prop} {X : List PanicEntry → World → Prop} {z : List Value} (s x : Operand) (t : Nat)
    (ho : o.op = .call { callee := .builtin .append, args := #[s, x], argTypes := #[t, t] }) (hmk : mk P t = some (9, 1, 16, z))
    (hs : ev F s = .slice A n cap) (hown : Own w 9 1 A n cap ys) {A2 : Option Addr} {c2 : Nat} {xs : List (List UInt8)} (hx : ev F x = .slice A2 xs.length c2) (h2 : Own w 9 1 A2 xs.length c2 (St xs))
    (hle : n + xs.length ≤ 1000000000) (h : ∀ A' cap' w', Own w' 9 1 A' (n + xs.length) cap' (ys ++ St xs) → w.grownBy w' (bk A) → (bk A' = bk A ∨ bk A' = some w.heap.size) → K (.slice A' (n + xs.length) cap') w') : OpV P o F w K X := by
  rcases Nat.eq_zero_or_pos xs.length with h0 | h0
  · obtain rfl : xs = [] := by simpa using h0
    refine V_append0 s x t ho hmk hs hown hx ?_
    have := h A cap w (by simpa [St] using hown) ⟨rfl, rfl, rfl, Nat.le_refl _, fun _ _ _ => rfl⟩ (.inl rfl)
    simpa using this
  · obtain ⟨g, rfl, _, _⟩ := h2.some h0
    exact V_append s x t ho hmk hs hown hx (St xs) (rdn_of _ 0 _ (by simp [St]) (fun j hj => by rw [Nat.zero_add]; exact h2.rdc j hj)) (St_one xs) (by omega) (by omega) h
/-- A line, and its fields: the reference's. -/
def Rec3 (w : World) (r : Nat) (l : List UInt8) (xs : List (List UInt8)) : Prop :=
  ∃ A c, Blk w r 70 [.string (B l), .slice A xs.length c] ∧ Own w 9 1 A xs.length c (St xs)

theorem join_take {xs : List (List UInt8)} {sep : List UInt8} {k : Nat} (hk : k < xs.length) :
    Lib.join (xs.take (k + 1)) sep = Lib.join (xs.take k) sep ++ (if 0 < k then sep else []) ++ xs[k] := by
  cases xs with
  | nil => simp at hk
  | cons x r =>
    cases k with
    | zero => simp [Lib.join_one, Lib.join_nil]
    | succ k =>
      simp only [List.length_cons] at hk
      rw [List.take_succ_cons, List.take_succ_cons, Lib.join_cons, Lib.join_cons, Lib.joinTail_take_succ sep r k r[k] (List.getElem?_eq_getElem (by omega)), if_pos (by omega)]
      simp

section
variable {r : Nat} {l : List UInt8} {xs : List (List UInt8)} {w w' : World} {A : Option Addr} {c : Nat}

theorem Rec3.Kp (h : Rec3 w r l xs) (hk : VC.Kp (fun _ => False) w w') : Rec3 w' r l xs := by
  obtain ⟨A, c, hb, ho⟩ := h
  exact ⟨A, c, hk.Blk hb id, ho.Kp hk fun _ _ => id⟩

theorem join3_any (hx : Txt w A xs) (hn : xs.length ≤ 1000000) (sep : List UInt8) (hlen : ∀ y ∈ xs, y.length ≤ 1000000) (hs : sep.length ≤ 1000) :
    Calls Try.prog 69 #[.slice A xs.length c, .string (B sep)] w fun e w' => e = .returned (.string (B (Lib.join xs sep))) ∧ w = w' := by
  refine enter (n := 25) (args := [.slice A xs.length c, .string (B sep)]) Try.func69 rfl rfl rfl (by simp) ?_
  repeat (first | refine qS ?_ | refine qB ?_ | refine qT rfl ?_ | refine qF rfl ?_ | ((first | refine qR rfl ?_ | refine qK ?_ | refine qE ?_ | refine qW ?_ | refine qM ?_); try simp -dsimp (disch := first | omega | (simp only [qZ] <;> omega) | fail) only [push_cast, ↓qP, ↓reduceIte, seval]) | (refine qA ?_ ?_; (first | omega | (simp only [qL]; omega) | (simp only [qD] at *; omega))))
  refine Wp.loop (α := Nat) (fun k F w1 => F 0 = .slice A xs.length c ∧ F 1 = .string (B sep) ∧ F 5 = .string (B (Lib.join (xs.take k) sep)) ∧ F 6 = .int .i64 k ∧ k ≤ xs.length ∧ w = w1) (fun k => xs.length - k) 0 ⟨?_, ?_, ?_, ?_, by omega, rfl⟩ ?_
  · simp -dsimp (disch := first | omega | (simp only [qZ] <;> omega) | fail) only [push_cast, ↓qP, ↓reduceIte, seval]
  · simp -dsimp (disch := first | omega | (simp only [qZ] <;> omega) | fail) only [push_cast, ↓qP, ↓reduceIte, seval]
  · simp -dsimp (disch := first | omega | (simp only [qZ] <;> omega) | fail) only [push_cast, ↓qP, ↓reduceIte, seval]
    rfl
  · simp -dsimp (disch := first | omega | (simp only [qZ] <;> omega) | fail) only [push_cast, ↓qP, ↓reduceIte, seval]
  rintro k F _ ⟨f0, f1, f5, f6, hk, rfl⟩
  rcases Bool.eq_false_or_eq_true (decide ((k : Int) < (xs.length : Int))) with h4 | h4
  · have hk' : k < xs.length := by simpa using h4
    obtain ⟨b, o, rfl, hb, hr⟩ := hx.form (by rintro rfl; simp at hk')
    have e1 : rdc w b (o + k) = some (.string (B xs[k])) := hr k _ (List.getElem?_eq_getElem hk')
    have hwr : IntKind.i64.wrap ((k : Int) + 1) = ((k + 1 : Nat) : Int) := by rw [wrap_id (by omega)]; omega
    have hj := join_take (sep := sep) hk'
    have hle : (Lib.join (xs.take (k + 1)) sep).length ≤ 140737488355328 := by
      have h1 := join_le (xs.take (k + 1)) sep 1000000 1000 (fun y hy => hlen y (List.mem_of_mem_take hy)) hs
      rw [List.length_take] at h1
      have h2 : min (k + 1) xs.length * (1000000 + 1000) ≤ 1000000 * (1000000 + 1000) := Nat.mul_le_mul_right _ (by omega)
      omega
    rw [hj] at hle
    generalize Lib.join (xs.take k) sep = M at *
    rcases Bool.eq_false_or_eq_true (decide ((k : Int) > 0)) with h5 | h5
    · have h5' : 0 < k := by simpa using h5
      rw [if_pos h5'] at hj hle
      rw [List.length_append, List.length_append] at hle
      have hl2 : M.length + sep.length ≤ 140737488355328 := by omega
      repeat (first | refine qS ?_ | refine qB ?_ | refine qT rfl ?_ | refine qF rfl ?_ | ((first | refine qR rfl ?_ | refine qK ?_ | refine qE ?_ | refine qW ?_ | refine qM ?_); try simp -dsimp (disch := first | omega | (simp only [qZ] <;> omega) | fail) only [push_cast, ↓qP, ↓reduceIte, seval, f0, f1, f5, f6, h4, h5, hwr, e1]) | (refine qA ?_ ?_; (first | omega | (simp only [qL]; omega) | (simp only [qD] at *; omega))))
      refine Again.mk (k + 1) ⟨?_, ?_, ?_, ?_, by omega, rfl⟩ (by omega)
      · simp -dsimp (disch := first | omega | (simp only [qZ] <;> omega) | fail) only [push_cast, ↓qP, ↓reduceIte, seval, f0]
      · simp -dsimp (disch := first | omega | (simp only [qZ] <;> omega) | fail) only [push_cast, ↓qP, ↓reduceIte, seval, f1]
      · simp -dsimp (disch := first | omega | (simp only [qZ] <;> omega) | fail) only [push_cast, ↓qP, ↓reduceIte, seval, hj]
      · simp -dsimp (disch := first | omega | (simp only [qZ] <;> omega) | fail) only [push_cast, ↓qP, ↓reduceIte, seval, hwr]
    · have h5' : ¬ 0 < k := by simpa using h5
      rw [if_neg h5', List.append_nil] at hj hle
      rw [List.length_append] at hle
      repeat (first | refine qS ?_ | refine qB ?_ | refine qT rfl ?_ | refine qF rfl ?_ | ((first | refine qR rfl ?_ | refine qK ?_ | refine qE ?_ | refine qW ?_ | refine qM ?_); try simp -dsimp (disch := first | omega | (simp only [qZ] <;> omega) | fail) only [push_cast, ↓qP, ↓reduceIte, seval, f0, f1, f5, f6, h4, h5, hwr, e1]) | (refine qA ?_ ?_; (first | omega | (simp only [qL]; omega) | (simp only [qD] at *; omega))))
      refine Again.mk (k + 1) ⟨?_, ?_, ?_, ?_, by omega, rfl⟩ (by omega)
      · simp -dsimp (disch := first | omega | (simp only [qZ] <;> omega) | fail) only [push_cast, ↓qP, ↓reduceIte, seval, f0]
      · simp -dsimp (disch := first | omega | (simp only [qZ] <;> omega) | fail) only [push_cast, ↓qP, ↓reduceIte, seval, f1]
      · simp -dsimp (disch := first | omega | (simp only [qZ] <;> omega) | fail) only [push_cast, ↓qP, ↓reduceIte, seval, hj]
      · simp -dsimp (disch := first | omega | (simp only [qZ] <;> omega) | fail) only [push_cast, ↓qP, ↓reduceIte, seval, hwr]
  · have hk' : k = xs.length := by have : ¬ k < xs.length := by simpa using h4
                                   omega
    subst hk'
    rw [List.take_length] at f5
    repeat (first | refine qS ?_ | refine qB ?_ | refine qT rfl ?_ | refine qF rfl ?_ | ((first | refine qR rfl ?_ | refine qK ?_ | refine qE ?_ | refine qW ?_ | refine qM ?_); try simp -dsimp (disch := first | omega | (simp only [qZ] <;> omega) | fail) only [push_cast, ↓qP, ↓reduceIte, seval, f0, f1, f5, f6, h4]) | (refine qA ?_ ?_; (first | omega | (simp only [qL]; omega) | (simp only [qD] at *; omega))))
    exact Ret.mk ⟨rfl, rfl⟩

theorem get3_any (h : Rec3 w r l xs) (i : Int) (hi : -9223372036854775808 ≤ i ∧ i ≤ 9223372036854775807) (hx : xs.length ≤ 1000000) : Calls Try.prog 45 #[.pointer (some ⟨r, 0, none⟩), .int .i64 i] w fun e w' => e = .returned (.tuple #[.string (B (getM l xs i).1), .bool (getM l xs i).2]) ∧ w = w' := by
  obtain ⟨A, c, hb, ho⟩ := h
  have hlt := hb.lt
  refine enter (n := 37) (args := [.pointer (some ⟨r, 0, none⟩), .int .i64 i]) Try.func45 rfl rfl rfl (by simp) ?_
  rcases Bool.eq_false_or_eq_true (i == 0) with h2 | h2
  · repeat (first | refine qS ?_ | refine qB ?_ | refine qT rfl ?_ | refine qF rfl ?_ | ((first | refine qR rfl ?_ | refine qK ?_ | refine qE ?_ | refine qW ?_ | refine qM ?_); try simp -dsimp (disch := first | omega | (simp only [qZ] <;> omega) | fail) only [push_cast, ↓qP, ↓reduceIte, seval, hb.rdc, h2]) | (refine qA ?_ ?_; (first | omega | (simp only [qL]; omega) | (simp only [qD] at *; omega))))
    have e : getM l xs i = (l, true) := by simp at h2; simp [getM, h2]
    rw [e]
    exact Ret.mk ⟨rfl, rfl⟩
  have h2' : i ≠ 0 := by simpa using h2
  rcases Bool.eq_false_or_eq_true (decide (i > 0)) with h1 | h1
  · have h1' := of_decide_eq_true h1
    rcases Bool.eq_false_or_eq_true (decide (i ≤ (xs.length : Int))) with h3 | h3
    · have h3' := of_decide_eq_true h3
      have hj : (i - 1).toNat < xs.length := by omega
      obtain ⟨g, rfl, hg, _⟩ := ho.some (by omega)
      have hr := ho.rdc (i - 1).toNat (by omega)
      rw [St_get, List.getElem?_eq_getElem hj] at hr
      simp only [Option.map_some] at hr
      repeat (first | refine qS ?_ | refine qB ?_ | refine qT rfl ?_ | refine qF rfl ?_ | ((first | refine qR rfl ?_ | refine qK ?_ | refine qE ?_ | refine qW ?_ | refine qM ?_); try simp -dsimp (disch := first | omega | (simp only [qZ] <;> omega) | fail) only [push_cast, ↓qP, ↓reduceIte, seval, hb.rdc, h1, h2, h3, hr]) | (refine qA ?_ ?_; (first | omega | (simp only [qL]; omega) | (simp only [qD] at *; omega))))
      have e : getM l xs i = (xs[(i - 1).toNat], true) := by unfold getM; rw [if_neg (by omega), if_neg h2', if_pos h3', List.getD_eq_getElem?_getD, List.getElem?_eq_getElem hj]; rfl
      rw [e]
      exact Ret.mk ⟨rfl, rfl⟩
    · have h3' := of_decide_eq_false h3
      repeat (first | refine qS ?_ | refine qB ?_ | refine qT rfl ?_ | refine qF rfl ?_ | ((first | refine qR rfl ?_ | refine qK ?_ | refine qE ?_ | refine qW ?_ | refine qM ?_); try simp -dsimp (disch := first | omega | (simp only [qZ] <;> omega) | fail) only [push_cast, ↓qP, ↓reduceIte, seval, hb.rdc, h1, h2, h3]) | (refine qA ?_ ?_; (first | omega | (simp only [qL]; omega) | (simp only [qD] at *; omega))))
      have e : getM l xs i = ([], decide (i ≤ 1000)) := by unfold getM; rw [if_neg (by omega), if_neg h2', if_neg h3']
      rw [e]
      exact Ret.mk ⟨rfl, rfl⟩
  · have h1' := of_decide_eq_false h1
    repeat (first | refine qS ?_ | refine qB ?_ | refine qT rfl ?_ | refine qF rfl ?_ | ((first | refine qR rfl ?_ | refine qK ?_ | refine qE ?_ | refine qW ?_ | refine qM ?_); try simp -dsimp (disch := first | omega | (simp only [qZ] <;> omega) | fail) only [push_cast, ↓qP, ↓reduceIte, seval, hb.rdc, h1, h2]) | (refine qA ?_ ?_; (first | omega | (simp only [qL]; omega) | (simp only [qD] at *; omega))))
    have e : getM l xs i = ([], false) := by unfold getM; rw [if_pos (by omega)]
    rw [e]
    exact Ret.mk ⟨rfl, rfl⟩

theorem snf3_any (h : Rec3 w r l xs) (n : Int) (hn : -9223372036854775808 ≤ n ∧ n ≤ 9223372036854775807) (hx : xs.length ≤ 1000000) (ofs : List UInt8)
    (hlen : ∀ y ∈ xs, y.length ≤ 1000000) (ho' : ofs.length ≤ 1000) : 
    Calls Try.prog 43 #[.pointer (some ⟨r, 0, none⟩), .int .i64 n, .string (B ofs)] w fun e w' =>
      if n < 0 ∨ ¬ n ≤ max 1000 (xs.length : Int) then e = .returned (.bool false) ∧ w = w' else
        e = .returned (.bool true) ∧ Rec3 w' r (Lib.join (nfM xs n.toNat) ofs) (nfM xs n.toNat) ∧ Kp (· = r) w w' := by
  obtain ⟨A, c, hb, ho⟩ := h
  have hlt := hb.lt
  refine enter (n := 51) (args := [.pointer (some ⟨r, 0, none⟩), .int .i64 n, .string (B ofs)]) Try.func43 rfl rfl rfl (by simp) ?_
  rcases Bool.eq_false_or_eq_true (decide (n < 0)) with h1 | h1
  · repeat (first | refine qS ?_ | refine qB ?_ | refine qT rfl ?_ | refine qF rfl ?_ | ((first | refine qR rfl ?_ | refine qK ?_ | refine qE ?_ | refine qW ?_ | refine qM ?_); try simp -dsimp (disch := first | omega | (simp only [qZ] <;> omega) | fail) only [push_cast, ↓qP, ↓reduceIte, seval, h1]) | (refine qA ?_ ?_; (first | omega | (simp only [qL]; omega) | (simp only [qD] at *; omega))))
    have h1' := of_decide_eq_true h1
    refine Ret.mk ?_
    rw [if_pos (.inl h1')]
    exact ⟨rfl, rfl⟩
  have h1' := of_decide_eq_false h1
  by_cases hbig : n > 1000 ∧ n > (xs.length : Int)
  · have h2 : decide (n > 1000) = true := decide_eq_true hbig.1
    have h3 : decide (n > (xs.length : Int)) = true := decide_eq_true hbig.2
    repeat (first | refine qS ?_ | refine qB ?_ | refine qT rfl ?_ | refine qF rfl ?_ | ((first | refine qR rfl ?_ | refine qK ?_ | refine qE ?_ | refine qW ?_ | refine qM ?_); try simp -dsimp (disch := first | omega | (simp only [qZ] <;> omega) | fail) only [push_cast, ↓qP, ↓reduceIte, seval, h1, h2, h3, hb.rdc]) | (refine qA ?_ ?_; (first | omega | (simp only [qL]; omega) | (simp only [qD] at *; omega))))
    refine Ret.mk ?_
    rw [if_pos (.inr (by omega))]
    exact ⟨rfl, rfl⟩
  have hle : n ≤ max 1000 (xs.length : Int) := by omega
  obtain ⟨M, rfl⟩ : ∃ M : Nat, n = (M : Int) := ⟨n.toNat, by omega⟩
  have hM3 : M ≤ 1000000 := by omega
  rcases Bool.eq_false_or_eq_true (decide ((M : Int) > 1000)) with h2 | h2
  · have h3 : decide ((M : Int) > (xs.length : Int)) = false := decide_eq_false (by have := of_decide_eq_true h2; omega)
    refine Sm.out ?_
    repeat (first | ((fail_if_success (first | refine qY (n := 3) ?_ | refine qV (n := 3) ?_)); refine qS ?_) | refine qB ?_ | refine qT rfl ?_ | refine qF rfl ?_ | ((first | refine qR rfl ?_ | refine qK ?_ | refine qE ?_ | refine qW ?_ | refine qM ?_); try simp -dsimp (disch := first | omega | (simp only [qZ] <;> omega) | fail) only [push_cast, ↓qP, ↓reduceIte, seval, h1, h2, h3, hb.rdc]) | (refine qA ?_ ?_; (first | omega | (simp only [qL]; omega) | (simp only [qD] at *; omega))))
    refine Wp.cutQ (fun F w2 => F 0 = .pointer (some ⟨r, 0, none⟩) ∧ F 1 = .int .i64 M ∧ F 2 = .string (B ofs) ∧ ∃ g c', F 7 = .slice (some ⟨g, 0, none⟩) xs.length c' ∧ Own w2 9 1 (some ⟨g, 0, none⟩) xs.length c' (St xs) ∧ w.heap.size ≤ g ∧ Kp0 w w2) ?_ ?_
    · repeat (first | refine qS ?_ | refine qB ?_ | refine qT rfl ?_ | refine qF rfl ?_ | ((first | refine qR rfl ?_ | refine qK ?_ | refine qE ?_ | refine qW ?_ | refine qM ?_); try simp -dsimp (disch := first | omega | (simp only [qZ] <;> omega) | fail) only [push_cast, ↓qP, ↓reduceIte, seval, hb.rdc]) | (refine qA ?_ ?_; (first | omega | (simp only [qL]; omega) | (simp only [qD] at *; omega))))
      refine V_appendOwn _ _ _ rfl mk_54 rfl (Own.new w 9 1 0 0 [] (by omega) (by unfold maxLen; omega) rfl) rfl (ho.alloc _) (by omega) ?_
      intro A' cap' w1 hown' hgrow hat
      rw [Nat.zero_add] at hown'
      have hown1 : Own w1 9 1 A' xs.length cap' (St xs) := hown'
      obtain ⟨g, rfl, hg⟩ : ∃ g, A' = some ⟨g, 0, none⟩ ∧ w.heap.size ≤ g := by
        rcases hat with h | h
        · exact ⟨_, hown1.of_bk h, Nat.le_refl _⟩
        · exact ⟨_, hown1.of_bk h, by simp⟩
      refine Sm.out ?_
      repeat (first | refine qS ?_ | refine qB ?_ | refine qT rfl ?_ | refine qF rfl ?_ | ((first | refine qR rfl ?_ | refine qK ?_ | refine qE ?_ | refine qW ?_ | refine qM ?_); try simp -dsimp (disch := first | omega | (simp only [qZ] <;> omega) | fail) only [push_cast, ↓qP, ↓reduceIte, seval]) | (refine qA ?_ ?_; (first | omega | (simp only [qL]; omega) | (simp only [qD] at *; omega))))
      exact Mid.mk ⟨by simp [upd, arg], by simp [upd, arg], by simp [upd, arg], g, cap', by simp [upd], hown1, hg, ((Kp.refl _ w).alloc _).grown hgrow (fun g hg hlt => by simp [bk] at hg; omega)⟩
    rintro F w2 hmid
    obtain ⟨f0, f1, f2, g, c', f7, hown, hg, hkp⟩ := hmid.out
    clear hmid
    refine Wp.cutQ (fun F w2 => F 0 = .pointer (some ⟨r, 0, none⟩) ∧ F 1 = .int .i64 M ∧ F 2 = .string (B ofs) ∧ ∃ g c' ys, F 7 = .slice (some ⟨g, 0, none⟩) ys.length c' ∧ ys = xs ++ List.replicate (M - xs.length) [] ∧ Own w2 9 1 (some ⟨g, 0, none⟩) ys.length c' (St ys) ∧ w.heap.size ≤ g ∧ Kp0 w w2) ?_ ?_
    · repeat (first | refine qS ?_ | refine qB ?_ | refine qT rfl ?_ | refine qF rfl ?_ | ((first | refine qR rfl ?_ | refine qK ?_ | refine qE ?_ | refine qW ?_ | refine qM ?_); try simp -dsimp (disch := first | omega | (simp only [qZ] <;> omega) | fail) only [push_cast, ↓qP, ↓reduceIte, seval]) | (refine qA ?_ ?_; (first | omega | (simp only [qL]; omega) | (simp only [qD] at *; omega))))
      refine Wp.loop (α := List (List UInt8)) (fun ys F w2 => F 0 = .pointer (some ⟨r, 0, none⟩) ∧ F 1 = .int .i64 M ∧ F 2 = .string (B ofs) ∧ ∃ g c', F 7 = .slice (some ⟨g, 0, none⟩) ys.length c' ∧ ys = xs ++ List.replicate (ys.length - xs.length) [] ∧ xs.length ≤ ys.length ∧ ys.length ≤ max M xs.length ∧ Own w2 9 1 (some ⟨g, 0, none⟩) ys.length c' (St ys) ∧ w.heap.size ≤ g ∧ Kp0 w w2) (fun ys => M - ys.length) xs ⟨f0, f1, f2, g, c', f7, by simp, by omega, by omega, hown, hg, hkp⟩ ?_
      clear f0 f1 f2 f7 hown hg hkp
      rintro ys F w2 ⟨f0, f1, f2, g, c', f7, hys, hl1, hl2, hown, hg, hkp⟩
      rcases Bool.eq_false_or_eq_true (decide ((ys.length : Int) < (M : Int))) with h4 | h4
      · have h4' : ys.length < M := by simpa using h4
        repeat (first | refine qS ?_ | refine qB ?_ | refine qT rfl ?_ | refine qF rfl ?_ | ((first | refine qR rfl ?_ | refine qK ?_ | refine qE ?_ | refine qW ?_ | refine qM ?_); try simp -dsimp (disch := first | omega | (simp only [qZ] <;> omega) | fail) only [push_cast, ↓qP, ↓reduceIte, seval, f0, f1, f2, f7, h4]) | (refine qA ?_ ?_; (first | omega | (simp only [qL]; omega) | (simp only [qD] at *; omega))))
        refine V_append (m := 1) _ _ _ rfl mk_54 rfl (hown.alloc _) rfl [.string (B [])] ?r rfl (by omega) (by omega) ?kk
        case r => simp -dsimp (disch := first | omega | (simp only [qZ] <;> omega) | fail) only [push_cast, ↓qP, ↓reduceIte, seval]
        case kk =>
          intro A' cap' w4 hown' hgrow hat
          obtain ⟨g', rfl, hg'⟩ : ∃ g, A' = some ⟨g, 0, none⟩ ∧ w.heap.size ≤ g := by
            have := hkp.size
            rcases hat with h | h
            · exact ⟨_, hown'.of_bk h, hg⟩
            · exact ⟨_, hown'.of_bk h, by simp; omega⟩
          refine Sm.out ?_
          repeat (first | refine qS ?_ | refine qB ?_ | refine qT rfl ?_ | refine qF rfl ?_ | ((first | refine qR rfl ?_ | refine qK ?_ | refine qE ?_ | refine qW ?_ | refine qM ?_); try simp -dsimp (disch := first | omega | (simp only [qZ] <;> omega) | fail) only [push_cast, ↓qP, ↓reduceIte, seval, f0, f1, f2, f7]) | (refine qA ?_ ?_; (first | omega | (simp only [qL]; omega) | (simp only [qD] at *; omega))))
          refine Again.mk (ys ++ [[]]) ⟨?_, ?_, ?_, g', cap', ?_, ?_, by simp; omega, by simp; omega, ?_, hg', (hkp.alloc _).grown hgrow (fun g1 h1 hlt => by simp [bk] at h1; omega)⟩ (by simp; omega)
          · simp -dsimp (disch := first | omega | (simp only [qZ] <;> omega) | fail) only [push_cast, ↓qP, ↓reduceIte, seval, f0]
          · simp -dsimp (disch := first | omega | (simp only [qZ] <;> omega) | fail) only [push_cast, ↓qP, ↓reduceIte, seval, f1]
          · simp -dsimp (disch := first | omega | (simp only [qZ] <;> omega) | fail) only [push_cast, ↓qP, ↓reduceIte, seval, f2]
          · simp -dsimp (disch := first | omega | (simp only [qZ] <;> omega) | fail) only [push_cast, ↓qP, ↓reduceIte, seval, List.length_append]
          · rw [List.length_append, List.length_singleton, show ys.length + 1 - xs.length = (ys.length - xs.length) + 1 by omega, List.replicate_succ', ← List.append_assoc, ← hys]
          · rw [St_append, List.length_append]; exact hown'
      · have h4' : M ≤ ys.length := by simpa using h4
        repeat (first | refine qS ?_ | refine qB ?_ | refine qT rfl ?_ | refine qF rfl ?_ | ((first | refine qR rfl ?_ | refine qK ?_ | refine qE ?_ | refine qW ?_ | refine qM ?_); try simp -dsimp (disch := first | omega | (simp only [qZ] <;> omega) | fail) only [push_cast, ↓qP, ↓reduceIte, seval, f0, f1, f2, f7, h4]) | (refine qA ?_ ?_; (first | omega | (simp only [qL]; omega) | (simp only [qD] at *; omega))))
        exact Mid.mk ⟨f0, f1, f2, g, c', ys, f7, by rw [show M - xs.length = ys.length - xs.length by omega]; exact hys, hown, hg, hkp⟩
    clear f0 f1 f2 f7 hown hg hkp
    rintro F w2 hmid
    obtain ⟨f0, f1, f2, g, c', ys, f7, hys, hown, hg, hkp⟩ := hmid.out
    clear hmid
    have hyl : ys.length = max M xs.length := by rw [hys]; simp; omega
    have hcap : ys.length ≤ c' := by
      rcases hown.form with ⟨h, _⟩ | ⟨_, _, _, _, h3, _⟩
      · cases h
      · exact h3
    have hzs : ys.take M = nfM xs M := by
      rw [hys, nfM, List.take_append, List.take_of_length_le (l := List.replicate _ _) (by simp)]
    have hown2 : Own w2 9 1 (some ⟨g, 0, none⟩) M c' (St (nfM xs M)) := by
      have := hown.cut M (by omega)
      rw [Nat.mul_one, St, ← List.map_take, hzs] at this
      exact this
    have hzl := nfM_len xs M
    have hzm := nfM_mem (n := M) hlen
    clear hys hzs hown
    generalize hzz : nfM xs M = zs at *
    have hb2 := hkp.Blk hb id
    have hlt2 := hb2.lt
    have hgl := hown2.lt rfl
    have hcM : M ≤ c' := by omega
    have hgr : g ≠ r := by omega
    have hsl : (if (c' : Int) = 0 then some (⟨g, 0, none⟩ : Addr) else some ((⟨g, 0, none⟩ : Addr).add 0)) = some ⟨g, 0, none⟩ := by split <;> rfl
    have hm0 : ((M : Int) - 0).toNat = M := by omega
    have hc0 : ((c' : Int) - 0).toNat = c' := by omega
    repeat (first | refine qS ?_ | refine qB ?_ | refine qT rfl ?_ | refine qF rfl ?_ | ((first | refine qR rfl ?_ | refine qK ?_ | refine qE ?_ | refine qW ?_ | refine qM ?_); try simp -dsimp (disch := first | omega | (simp only [qZ] <;> omega) | fail) only [push_cast, ↓qP, ↓reduceIte, seval, f0, f1, f2, f7, hb2.rdc, hb2.fz, hsl, hm0, hc0]) | (refine qA ?_ ?_; (first | omega | (simp only [qL]; omega) | (simp only [qD] at *; omega))))
    have hb3 := hb2.set 1 (.slice (some ⟨g, 0, none⟩) M c')
    have hown3 := hown2.far (p := ⟨r, 1, none⟩) (by simp [bk]; omega) (.slice (some ⟨g, 0, none⟩) M c')
    have k3 : Kp (· = r) w (w2.setCell ⟨r, 1, none⟩ (.slice (some ⟨g, 0, none⟩) M c')) := Kp.setCell ((Kp.refl (· = r) w).trans' hkp (fun _ _ h => h.elim)) (fun _ => rfl) _
    generalize w2.setCell ⟨r, 1, none⟩ (.slice (some ⟨g, 0, none⟩) M c') = w3 at *
    clear hb2 hown2 hlt2 hgl hb hlt hkp
    have hlt3 := hb3.lt
    subst hzl
    refine CallV.of isCall_69 (join3_any hown3.Txt (by omega) ofs hzm ho') ?_
    rintro _ _ ⟨rfl, rfl⟩
    refine Sm.out ?_
    repeat (first | refine qS ?_ | refine qB ?_ | refine qT rfl ?_ | refine qF rfl ?_ | ((first | refine qR rfl ?_ | refine qK ?_ | refine qE ?_ | refine qW ?_ | refine qM ?_); try simp -dsimp (disch := first | omega | (simp only [qZ] <;> omega) | fail) only [push_cast, ↓qP, ↓reduceIte, seval, f0, f1, f2, f7, hb3.rdc, hb3.fz]) | (refine qA ?_ ?_; (first | omega | (simp only [qL]; omega) | (simp only [qD] at *; omega))))
    refine Ret.mk ?_
    rw [if_neg (by omega), Int.toNat_natCast, hzz]
    exact ⟨rfl, ⟨_, _, hb3.set 0 (.string (B (Lib.join zs ofs))), hown3.far (p := ⟨r, 0, none⟩) (by simpa [bk] using hgr) _⟩, k3.setCell (fun _ => rfl) _⟩
  · refine Sm.out ?_
    repeat (first | ((fail_if_success (first | refine qY (n := 3) ?_ | refine qV (n := 3) ?_)); refine qS ?_) | refine qB ?_ | refine qT rfl ?_ | refine qF rfl ?_ | ((first | refine qR rfl ?_ | refine qK ?_ | refine qE ?_ | refine qW ?_ | refine qM ?_); try simp -dsimp (disch := first | omega | (simp only [qZ] <;> omega) | fail) only [push_cast, ↓qP, ↓reduceIte, seval, h1, h2, hb.rdc]) | (refine qA ?_ ?_; (first | omega | (simp only [qL]; omega) | (simp only [qD] at *; omega))))
    refine Wp.cutQ (fun F w2 => F 0 = .pointer (some ⟨r, 0, none⟩) ∧ F 1 = .int .i64 M ∧ F 2 = .string (B ofs) ∧ ∃ g c', F 7 = .slice (some ⟨g, 0, none⟩) xs.length c' ∧ Own w2 9 1 (some ⟨g, 0, none⟩) xs.length c' (St xs) ∧ w.heap.size ≤ g ∧ Kp0 w w2) ?_ ?_
    · repeat (first | refine qS ?_ | refine qB ?_ | refine qT rfl ?_ | refine qF rfl ?_ | ((first | refine qR rfl ?_ | refine qK ?_ | refine qE ?_ | refine qW ?_ | refine qM ?_); try simp -dsimp (disch := first | omega | (simp only [qZ] <;> omega) | fail) only [push_cast, ↓qP, ↓reduceIte, seval, hb.rdc]) | (refine qA ?_ ?_; (first | omega | (simp only [qL]; omega) | (simp only [qD] at *; omega))))
      refine V_appendOwn _ _ _ rfl mk_54 rfl (Own.new w 9 1 0 0 [] (by omega) (by unfold maxLen; omega) rfl) rfl (ho.alloc _) (by omega) ?_
      intro A' cap' w1 hown' hgrow hat
      rw [Nat.zero_add] at hown'
      have hown1 : Own w1 9 1 A' xs.length cap' (St xs) := hown'
      obtain ⟨g, rfl, hg⟩ : ∃ g, A' = some ⟨g, 0, none⟩ ∧ w.heap.size ≤ g := by
        rcases hat with h | h
        · exact ⟨_, hown1.of_bk h, Nat.le_refl _⟩
        · exact ⟨_, hown1.of_bk h, by simp⟩
      refine Sm.out ?_
      repeat (first | refine qS ?_ | refine qB ?_ | refine qT rfl ?_ | refine qF rfl ?_ | ((first | refine qR rfl ?_ | refine qK ?_ | refine qE ?_ | refine qW ?_ | refine qM ?_); try simp -dsimp (disch := first | omega | (simp only [qZ] <;> omega) | fail) only [push_cast, ↓qP, ↓reduceIte, seval]) | (refine qA ?_ ?_; (first | omega | (simp only [qL]; omega) | (simp only [qD] at *; omega))))
      exact Mid.mk ⟨by simp [upd, arg], by simp [upd, arg], by simp [upd, arg], g, cap', by simp [upd], hown1, hg, ((Kp.refl _ w).alloc _).grown hgrow (fun g hg hlt => by simp [bk] at hg; omega)⟩
    rintro F w2 hmid
    obtain ⟨f0, f1, f2, g, c', f7, hown, hg, hkp⟩ := hmid.out
    clear hmid
    refine Wp.cutQ (fun F w2 => F 0 = .pointer (some ⟨r, 0, none⟩) ∧ F 1 = .int .i64 M ∧ F 2 = .string (B ofs) ∧ ∃ g c' ys, F 7 = .slice (some ⟨g, 0, none⟩) ys.length c' ∧ ys = xs ++ List.replicate (M - xs.length) [] ∧ Own w2 9 1 (some ⟨g, 0, none⟩) ys.length c' (St ys) ∧ w.heap.size ≤ g ∧ Kp0 w w2) ?_ ?_
    · repeat (first | refine qS ?_ | refine qB ?_ | refine qT rfl ?_ | refine qF rfl ?_ | ((first | refine qR rfl ?_ | refine qK ?_ | refine qE ?_ | refine qW ?_ | refine qM ?_); try simp -dsimp (disch := first | omega | (simp only [qZ] <;> omega) | fail) only [push_cast, ↓qP, ↓reduceIte, seval]) | (refine qA ?_ ?_; (first | omega | (simp only [qL]; omega) | (simp only [qD] at *; omega))))
      refine Wp.loop (α := List (List UInt8)) (fun ys F w2 => F 0 = .pointer (some ⟨r, 0, none⟩) ∧ F 1 = .int .i64 M ∧ F 2 = .string (B ofs) ∧ ∃ g c', F 7 = .slice (some ⟨g, 0, none⟩) ys.length c' ∧ ys = xs ++ List.replicate (ys.length - xs.length) [] ∧ xs.length ≤ ys.length ∧ ys.length ≤ max M xs.length ∧ Own w2 9 1 (some ⟨g, 0, none⟩) ys.length c' (St ys) ∧ w.heap.size ≤ g ∧ Kp0 w w2) (fun ys => M - ys.length) xs ⟨f0, f1, f2, g, c', f7, by simp, by omega, by omega, hown, hg, hkp⟩ ?_
      clear f0 f1 f2 f7 hown hg hkp
      rintro ys F w2 ⟨f0, f1, f2, g, c', f7, hys, hl1, hl2, hown, hg, hkp⟩
      rcases Bool.eq_false_or_eq_true (decide ((ys.length : Int) < (M : Int))) with h4 | h4
      · have h4' : ys.length < M := by simpa using h4
        repeat (first | refine qS ?_ | refine qB ?_ | refine qT rfl ?_ | refine qF rfl ?_ | ((first | refine qR rfl ?_ | refine qK ?_ | refine qE ?_ | refine qW ?_ | refine qM ?_); try simp -dsimp (disch := first | omega | (simp only [qZ] <;> omega) | fail) only [push_cast, ↓qP, ↓reduceIte, seval, f0, f1, f2, f7, h4]) | (refine qA ?_ ?_; (first | omega | (simp only [qL]; omega) | (simp only [qD] at *; omega))))
        refine V_append (m := 1) _ _ _ rfl mk_54 rfl (hown.alloc _) rfl [.string (B [])] ?r rfl (by omega) (by omega) ?kk
        case r => simp -dsimp (disch := first | omega | (simp only [qZ] <;> omega) | fail) only [push_cast, ↓qP, ↓reduceIte, seval]
        case kk =>
          intro A' cap' w4 hown' hgrow hat
          obtain ⟨g', rfl, hg'⟩ : ∃ g, A' = some ⟨g, 0, none⟩ ∧ w.heap.size ≤ g := by
            have := hkp.size
            rcases hat with h | h
            · exact ⟨_, hown'.of_bk h, hg⟩
            · exact ⟨_, hown'.of_bk h, by simp; omega⟩
          refine Sm.out ?_
          repeat (first | refine qS ?_ | refine qB ?_ | refine qT rfl ?_ | refine qF rfl ?_ | ((first | refine qR rfl ?_ | refine qK ?_ | refine qE ?_ | refine qW ?_ | refine qM ?_); try simp -dsimp (disch := first | omega | (simp only [qZ] <;> omega) | fail) only [push_cast, ↓qP, ↓reduceIte, seval, f0, f1, f2, f7]) | (refine qA ?_ ?_; (first | omega | (simp only [qL]; omega) | (simp only [qD] at *; omega))))
          refine Again.mk (ys ++ [[]]) ⟨?_, ?_, ?_, g', cap', ?_, ?_, by simp; omega, by simp; omega, ?_, hg', (hkp.alloc _).grown hgrow (fun g1 h1 hlt => by simp [bk] at h1; omega)⟩ (by simp; omega)
          · simp -dsimp (disch := first | omega | (simp only [qZ] <;> omega) | fail) only [push_cast, ↓qP, ↓reduceIte, seval, f0]
          · simp -dsimp (disch := first | omega | (simp only [qZ] <;> omega) | fail) only [push_cast, ↓qP, ↓reduceIte, seval, f1]
          · simp -dsimp (disch := first | omega | (simp only [qZ] <;> omega) | fail) only [push_cast, ↓qP, ↓reduceIte, seval, f2]
          · simp -dsimp (disch := first | omega | (simp only [qZ] <;> omega) | fail) only [push_cast, ↓qP, ↓reduceIte, seval, List.length_append]
          · rw [List.length_append, List.length_singleton, show ys.length + 1 - xs.length = (ys.length - xs.length) + 1 by omega, List.replicate_succ', ← List.append_assoc, ← hys]
          · rw [St_append, List.length_append]; exact hown'
      · have h4' : M ≤ ys.length := by simpa using h4
        repeat (first | refine qS ?_ | refine qB ?_ | refine qT rfl ?_ | refine qF rfl ?_ | ((first | refine qR rfl ?_ | refine qK ?_ | refine qE ?_ | refine qW ?_ | refine qM ?_); try simp -dsimp (disch := first | omega | (simp only [qZ] <;> omega) | fail) only [push_cast, ↓qP, ↓reduceIte, seval, f0, f1, f2, f7, h4]) | (refine qA ?_ ?_; (first | omega | (simp only [qL]; omega) | (simp only [qD] at *; omega))))
        exact Mid.mk ⟨f0, f1, f2, g, c', ys, f7, by rw [show M - xs.length = ys.length - xs.length by omega]; exact hys, hown, hg, hkp⟩
    clear f0 f1 f2 f7 hown hg hkp
    rintro F w2 hmid
    obtain ⟨f0, f1, f2, g, c', ys, f7, hys, hown, hg, hkp⟩ := hmid.out
    clear hmid
    have hyl : ys.length = max M xs.length := by rw [hys]; simp; omega
    have hcap : ys.length ≤ c' := by
      rcases hown.form with ⟨h, _⟩ | ⟨_, _, _, _, h3, _⟩
      · cases h
      · exact h3
    have hzs : ys.take M = nfM xs M := by
      rw [hys, nfM, List.take_append, List.take_of_length_le (l := List.replicate _ _) (by simp)]
    have hown2 : Own w2 9 1 (some ⟨g, 0, none⟩) M c' (St (nfM xs M)) := by
      have := hown.cut M (by omega)
      rw [Nat.mul_one, St, ← List.map_take, hzs] at this
      exact this
    have hzl := nfM_len xs M
    have hzm := nfM_mem (n := M) hlen
    clear hys hzs hown
    generalize hzz : nfM xs M = zs at *
    have hb2 := hkp.Blk hb id
    have hlt2 := hb2.lt
    have hgl := hown2.lt rfl
    have hcM : M ≤ c' := by omega
    have hgr : g ≠ r := by omega
    have hsl : (if (c' : Int) = 0 then some (⟨g, 0, none⟩ : Addr) else some ((⟨g, 0, none⟩ : Addr).add 0)) = some ⟨g, 0, none⟩ := by split <;> rfl
    have hm0 : ((M : Int) - 0).toNat = M := by omega
    have hc0 : ((c' : Int) - 0).toNat = c' := by omega
    repeat (first | refine qS ?_ | refine qB ?_ | refine qT rfl ?_ | refine qF rfl ?_ | ((first | refine qR rfl ?_ | refine qK ?_ | refine qE ?_ | refine qW ?_ | refine qM ?_); try simp -dsimp (disch := first | omega | (simp only [qZ] <;> omega) | fail) only [push_cast, ↓qP, ↓reduceIte, seval, f0, f1, f2, f7, hb2.rdc, hb2.fz, hsl, hm0, hc0]) | (refine qA ?_ ?_; (first | omega | (simp only [qL]; omega) | (simp only [qD] at *; omega))))
    have hb3 := hb2.set 1 (.slice (some ⟨g, 0, none⟩) M c')
    have hown3 := hown2.far (p := ⟨r, 1, none⟩) (by simp [bk]; omega) (.slice (some ⟨g, 0, none⟩) M c')
    have k3 : Kp (· = r) w (w2.setCell ⟨r, 1, none⟩ (.slice (some ⟨g, 0, none⟩) M c')) := Kp.setCell ((Kp.refl (· = r) w).trans' hkp (fun _ _ h => h.elim)) (fun _ => rfl) _
    generalize w2.setCell ⟨r, 1, none⟩ (.slice (some ⟨g, 0, none⟩) M c') = w3 at *
    clear hb2 hown2 hlt2 hgl hb hlt hkp
    have hlt3 := hb3.lt
    subst hzl
    refine CallV.of isCall_69 (join3_any hown3.Txt (by omega) ofs hzm ho') ?_
    rintro _ _ ⟨rfl, rfl⟩
    refine Sm.out ?_
    repeat (first | refine qS ?_ | refine qB ?_ | refine qT rfl ?_ | refine qF rfl ?_ | ((first | refine qR rfl ?_ | refine qK ?_ | refine qE ?_ | refine qW ?_ | refine qM ?_); try simp -dsimp (disch := first | omega | (simp only [qZ] <;> omega) | fail) only [push_cast, ↓qP, ↓reduceIte, seval, f0, f1, f2, f7, hb3.rdc, hb3.fz]) | (refine qA ?_ ?_; (first | omega | (simp only [qL]; omega) | (simp only [qD] at *; omega))))
    refine Ret.mk ?_
    rw [if_neg (by omega), Int.toNat_natCast, hzz]
    exact ⟨rfl, ⟨_, _, hb3.set 0 (.string (B (Lib.join zs ofs))), hown3.far (p := ⟨r, 0, none⟩) (by simpa [bk] using hgr) _⟩, k3.setCell (fun _ => rfl) _⟩

theorem set3_any (h : Rec3 w r l xs) (i : Int) (hi : -9223372036854775808 ≤ i ∧ i ≤ 9223372036854775807) (hx : xs.length ≤ 1000000) (s ofs : List UInt8)
    (hlen : ∀ y ∈ xs, y.length ≤ 1000000) (hs : s.length ≤ 1000000) (ho' : ofs.length ≤ 1000) : 
    Calls Try.prog 41 #[.pointer (some ⟨r, 0, none⟩), .int .i64 i, .string (B s), .string (B ofs)] w fun e w' =>
      if i < 1 ∨ ¬ i ≤ max 1000 (xs.length : Int) then e = .returned (.bool false) ∧ w = w' else
        e = .returned (.bool true) ∧ Rec3 w' r (Lib.join (setM xs i.toNat s) ofs) (setM xs i.toNat s) ∧ Kp (· = r) w w' := by
  have hrec := h
  obtain ⟨A, c, hb, ho⟩ := h
  have hlt := hb.lt
  refine enter (n := 57) (args := [.pointer (some ⟨r, 0, none⟩), .int .i64 i, .string (B s), .string (B ofs)]) Try.func41 rfl rfl rfl (by simp) ?_
  rcases Bool.eq_false_or_eq_true (decide (i < 1)) with h1 | h1
  · repeat (first | refine qS ?_ | refine qB ?_ | refine qT rfl ?_ | refine qF rfl ?_ | ((first | refine qR rfl ?_ | refine qK ?_ | refine qE ?_ | refine qW ?_ | refine qM ?_); try simp -dsimp (disch := first | omega | (simp only [qZ] <;> omega) | fail) only [push_cast, ↓qP, ↓reduceIte, seval, h1]) | (refine qA ?_ ?_; (first | omega | (simp only [qL]; omega) | (simp only [qD] at *; omega))))
    have h1' := of_decide_eq_true h1
    refine Ret.mk ?_
    rw [if_pos (.inl h1')]
    exact ⟨rfl, rfl⟩
  have h1' := of_decide_eq_false h1
  by_cases hbig : i > 1000 ∧ i > (xs.length : Int)
  · have h2 : decide (i > 1000) = true := decide_eq_true hbig.1
    have h3 : decide (i > (xs.length : Int)) = true := decide_eq_true hbig.2
    repeat (first | refine qS ?_ | refine qB ?_ | refine qT rfl ?_ | refine qF rfl ?_ | ((first | refine qR rfl ?_ | refine qK ?_ | refine qE ?_ | refine qW ?_ | refine qM ?_); try simp -dsimp (disch := first | omega | (simp only [qZ] <;> omega) | fail) only [push_cast, ↓qP, ↓reduceIte, seval, h1, h2, h3, hb.rdc]) | (refine qA ?_ ?_; (first | omega | (simp only [qL]; omega) | (simp only [qD] at *; omega))))
    refine Ret.mk ?_
    rw [if_pos (.inr (by omega))]
    exact ⟨rfl, rfl⟩
  have hle : i ≤ max 1000 (xs.length : Int) := by omega
  obtain ⟨J, rfl⟩ : ∃ J : Nat, i = (J : Int) + 1 := ⟨(i - 1).toNat, by omega⟩
  have hJ : J + 1 ≤ 1000000 := by omega
  rcases Bool.eq_false_or_eq_true (decide ((J : Int) + 1 > 1000)) with h2 | h2
  · have h3 : decide ((J : Int) + 1 > (xs.length : Int)) = false := decide_eq_false (by have := of_decide_eq_true h2; omega)
    refine Sm.out ?_
    repeat (first | ((fail_if_success (first | refine qY (n := 3) ?_ | refine qV (n := 3) ?_)); refine qS ?_) | refine qB ?_ | refine qT rfl ?_ | refine qF rfl ?_ | ((first | refine qR rfl ?_ | refine qK ?_ | refine qE ?_ | refine qW ?_ | refine qM ?_); try simp -dsimp (disch := first | omega | (simp only [qZ] <;> omega) | fail) only [push_cast, ↓qP, ↓reduceIte, seval, h1, h2, h3, hb.rdc]) | (refine qA ?_ ?_; (first | omega | (simp only [qL]; omega) | (simp only [qD] at *; omega))))
    refine Wp.cutQ (fun F w2 => F 0 = .pointer (some ⟨r, 0, none⟩) ∧ F 1 = .int .i64 ((J : Int) + 1) ∧ F 2 = .string (B s) ∧ F 3 = .string (B ofs) ∧ ∃ l2 ys, Rec3 w2 r l2 ys ∧ ys = xs ++ List.replicate (J + 1 - xs.length) [] ∧ Kp (· = r) w w2) ?_ ?_
    · rcases Bool.eq_false_or_eq_true (decide ((J : Int) + 1 > (xs.length : Int))) with h3 | h3
      · have h3' := of_decide_eq_true h3
        repeat (first | refine qS ?_ | refine qB ?_ | refine qT rfl ?_ | refine qF rfl ?_ | ((first | refine qR rfl ?_ | refine qK ?_ | refine qE ?_ | refine qW ?_ | refine qM ?_); try simp -dsimp (disch := first | omega | (simp only [qZ] <;> omega) | fail) only [push_cast, ↓qP, ↓reduceIte, seval, h3, hb.rdc]) | (refine qA ?_ ?_; (first | omega | (simp only [qL]; omega) | (simp only [qD] at *; omega))))
        refine CallV.of isCall_43 (snf3_any hrec ((J : Int) + 1) (by omega) hx ofs hlen ho') ?_
        intro e w2 hp
        rw [if_neg (by omega)] at hp
        obtain ⟨rfl, hr2, k2⟩ := hp
        refine Sm.out ?_
        repeat (first | refine qS ?_ | refine qB ?_ | refine qT rfl ?_ | refine qF rfl ?_ | ((first | refine qR rfl ?_ | refine qK ?_ | refine qE ?_ | refine qW ?_ | refine qM ?_); try simp -dsimp (disch := first | omega | (simp only [qZ] <;> omega) | fail) only [push_cast, ↓qP, ↓reduceIte, seval]) | (refine qA ?_ ?_; (first | omega | (simp only [qL]; omega) | (simp only [qD] at *; omega))))
        refine Mid.mk ⟨by simp [upd, arg], by simp [upd, arg], by simp [upd, arg], by simp [upd, arg], _, _, hr2, ?_, k2⟩
        rw [show ((J : Int) + 1).toNat = J + 1 by omega, nfM, List.take_of_length_le (by omega)]
      · have h3' := of_decide_eq_false h3
        repeat (first | refine qS ?_ | refine qB ?_ | refine qT rfl ?_ | refine qF rfl ?_ | ((first | refine qR rfl ?_ | refine qK ?_ | refine qE ?_ | refine qW ?_ | refine qM ?_); try simp -dsimp (disch := first | omega | (simp only [qZ] <;> omega) | fail) only [push_cast, ↓qP, ↓reduceIte, seval, h3, hb.rdc]) | (refine qA ?_ ?_; (first | omega | (simp only [qL]; omega) | (simp only [qD] at *; omega))))
        refine Mid.mk ⟨by simp [upd, arg], by simp [upd, arg], by simp [upd, arg], by simp [upd, arg], _, _, hrec, ?_, Kp.refl _ _⟩
        rw [show J + 1 - xs.length = 0 by omega]; simp
    rintro F w2 hmid
    obtain ⟨f0, f1, f2, f3, l2, ys, ⟨A2, c2, hb2, ho2⟩, hys, k2⟩ := hmid.out
    clear hmid
    have hyl : ys.length = max xs.length (J + 1) := by rw [hys]; simp; omega
    have hym : ∀ y ∈ ys, y.length ≤ 1000000 := by
      intro y hy
      rw [hys] at hy
      rcases List.mem_append.1 hy with hy | hy
      · exact hlen y hy
      · simp [List.eq_of_mem_replicate hy]
    have hset : ys.set J s = setM xs (J + 1) s := by rw [hys]; rfl
    have hsm := setM_mem (i := J + 1) hlen hs
    clear hys
    have hlt2 := hb2.lt
    repeat (first | refine qS ?_ | refine qB ?_ | refine qT rfl ?_ | refine qF rfl ?_ | ((first | refine qR rfl ?_ | refine qK ?_ | refine qE ?_ | refine qW ?_ | refine qM ?_); try simp -dsimp (disch := first | omega | (simp only [qZ] <;> omega) | fail) only [push_cast, ↓qP, ↓reduceIte, seval, f0, hb2.rdc]) | (refine qA ?_ ?_; (first | omega | (simp only [qL]; omega) | (simp only [qD] at *; omega))))
    refine V_appendOwn _ _ _ rfl mk_54 rfl (Own.new w2 9 1 0 0 [] (by omega) (by unfold maxLen; omega) rfl) rfl (ho2.alloc _) (by omega) ?_
    intro A' cap' w3 hown' hgrow hat
    have hb3 : Blk w3 r 70 [.string (B l2), .slice A2 ys.length c2] := (((Kp.refl (fun _ => False) w2).alloc _).grown hgrow (fun g hg hlt => by simp [bk] at hg; omega)).Blk hb2 id
    have k3 : Kp (· = r) w w3 := (k2.alloc _).grown hgrow (fun g hg hlt => by simp [bk] at hg; have := k2.size; omega)
    obtain ⟨g, rfl, hg2⟩ : ∃ g, A' = some ⟨g, 0, none⟩ ∧ w2.heap.size ≤ g := by
      rcases hat with h | h
      · exact ⟨_, hown'.of_bk h, Nat.le_refl _⟩
      · exact ⟨_, hown'.of_bk h, by simp⟩
    rw [Nat.zero_add] at hown'
    have hown3 : Own w3 9 1 (some ⟨g, 0, none⟩) ys.length cap' (St ys) := hown'
    clear hown' hgrow hat
    have hgr : g ≠ r := by omega
    have hJy : J < ys.length := by omega
    have hcell : rdc w3 g J = some (.string (B ys[J])) := by rw [hown3.rdc J (by omega), St_get, List.getElem?_eq_getElem hJy]; rfl
    have hlt3 := hb3.lt
    have hgl := hown3.lt rfl
    have hwr : IntKind.i64.wrap ((J : Int) + 1 - 1) = (J : Int) := by rw [wrap_id (by omega)]; omega
    have hcc := hown3.some (by omega)
    refine Sm.out ?_
    repeat (first | refine qS ?_ | refine qB ?_ | refine qT rfl ?_ | refine qF rfl ?_ | ((first | refine qR rfl ?_ | refine qK ?_ | refine qE ?_ | refine qW ?_ | refine qM ?_); try simp -dsimp (disch := first | omega | (simp only [qZ] <;> omega) | fail) only [push_cast, ↓qP, ↓reduceIte, seval, f0, f1, f2, f3, hwr, hcell, hown3.fz, Nat.zero_add, hb3.rdc, hb3.fz]) | (refine qA ?_ ?_; (first | omega | (simp only [qL]; omega) | (simp only [qD] at *; omega))))
    have hown4 := (hown3.set J (.string (B s))).far (p := ⟨r, 1, none⟩) (by simp [bk]; omega) (.slice (some ⟨g, 0, none⟩) ys.length cap')
    have hb4 := (hb3.far (p := ⟨g, J, none⟩) (by simp; omega) (.string (B s))).set 1 (.slice (some ⟨g, 0, none⟩) ys.length cap')
    have k4 : Kp (· = r) w ((w3.setCell ⟨g, J, none⟩ (.string (B s))).setCell ⟨r, 1, none⟩ (.slice (some ⟨g, 0, none⟩) ys.length cap')) := Kp.setCell (Kp.setCell k3 (fun h => by have := k2.size; simp at h; omega) _) (fun _ => rfl) _
    generalize (w3.setCell ⟨g, J, none⟩ (.string (B s))).setCell ⟨r, 1, none⟩ (.slice (some ⟨g, 0, none⟩) ys.length cap') = w4 at *
    have hst : (St ys).set J (.string (B s)) = St (ys.set J s) := by simp [St, List.map_set]
    rw [hst] at hown4
    have hyz : ys.length = (ys.set J s).length := by simp
    rw [hset] at hown4 hyz
    generalize hzz : setM xs (J + 1) s = zs at *
    rw [hyz] at hown4 hb4
    rw [hyz]
    clear k3 hown3 hb3 hcell hlt3 hcc hb2 ho2 hlt2
    have hlt4 := hb4.lt
    refine CallV.of isCall_69 (join3_any hown4.Txt (by omega) ofs hsm ho') ?_
    rintro _ _ ⟨rfl, rfl⟩
    refine Sm.out ?_
    repeat (first | refine qS ?_ | refine qB ?_ | refine qT rfl ?_ | refine qF rfl ?_ | ((first | refine qR rfl ?_ | refine qK ?_ | refine qE ?_ | refine qW ?_ | refine qM ?_); try simp -dsimp (disch := first | omega | (simp only [qZ] <;> omega) | fail) only [push_cast, ↓qP, ↓reduceIte, seval, f0, f1, f2, f3, hb4.rdc, hb4.fz]) | (refine qA ?_ ?_; (first | omega | (simp only [qL]; omega) | (simp only [qD] at *; omega))))
    refine Ret.mk ?_
    rw [if_neg (by omega), show ((J : Int) + 1).toNat = J + 1 by omega, hzz]
    exact ⟨rfl, ⟨_, _, hb4.set 0 (.string (B (Lib.join zs ofs))), hown4.far (p := ⟨r, 0, none⟩) (by simp [bk]; omega) _⟩, k4.setCell (fun _ => rfl) _⟩
  · refine Sm.out ?_
    repeat (first | ((fail_if_success (first | refine qY (n := 3) ?_ | refine qV (n := 3) ?_)); refine qS ?_) | refine qB ?_ | refine qT rfl ?_ | refine qF rfl ?_ | ((first | refine qR rfl ?_ | refine qK ?_ | refine qE ?_ | refine qW ?_ | refine qM ?_); try simp -dsimp (disch := first | omega | (simp only [qZ] <;> omega) | fail) only [push_cast, ↓qP, ↓reduceIte, seval, h1, h2, hb.rdc]) | (refine qA ?_ ?_; (first | omega | (simp only [qL]; omega) | (simp only [qD] at *; omega))))
    refine Wp.cutQ (fun F w2 => F 0 = .pointer (some ⟨r, 0, none⟩) ∧ F 1 = .int .i64 ((J : Int) + 1) ∧ F 2 = .string (B s) ∧ F 3 = .string (B ofs) ∧ ∃ l2 ys, Rec3 w2 r l2 ys ∧ ys = xs ++ List.replicate (J + 1 - xs.length) [] ∧ Kp (· = r) w w2) ?_ ?_
    · rcases Bool.eq_false_or_eq_true (decide ((J : Int) + 1 > (xs.length : Int))) with h3 | h3
      · have h3' := of_decide_eq_true h3
        repeat (first | refine qS ?_ | refine qB ?_ | refine qT rfl ?_ | refine qF rfl ?_ | ((first | refine qR rfl ?_ | refine qK ?_ | refine qE ?_ | refine qW ?_ | refine qM ?_); try simp -dsimp (disch := first | omega | (simp only [qZ] <;> omega) | fail) only [push_cast, ↓qP, ↓reduceIte, seval, h3, hb.rdc]) | (refine qA ?_ ?_; (first | omega | (simp only [qL]; omega) | (simp only [qD] at *; omega))))
        refine CallV.of isCall_43 (snf3_any hrec ((J : Int) + 1) (by omega) hx ofs hlen ho') ?_
        intro e w2 hp
        rw [if_neg (by omega)] at hp
        obtain ⟨rfl, hr2, k2⟩ := hp
        refine Sm.out ?_
        repeat (first | refine qS ?_ | refine qB ?_ | refine qT rfl ?_ | refine qF rfl ?_ | ((first | refine qR rfl ?_ | refine qK ?_ | refine qE ?_ | refine qW ?_ | refine qM ?_); try simp -dsimp (disch := first | omega | (simp only [qZ] <;> omega) | fail) only [push_cast, ↓qP, ↓reduceIte, seval]) | (refine qA ?_ ?_; (first | omega | (simp only [qL]; omega) | (simp only [qD] at *; omega))))
        refine Mid.mk ⟨by simp [upd, arg], by simp [upd, arg], by simp [upd, arg], by simp [upd, arg], _, _, hr2, ?_, k2⟩
        rw [show ((J : Int) + 1).toNat = J + 1 by omega, nfM, List.take_of_length_le (by omega)]
      · have h3' := of_decide_eq_false h3
        repeat (first | refine qS ?_ | refine qB ?_ | refine qT rfl ?_ | refine qF rfl ?_ | ((first | refine qR rfl ?_ | refine qK ?_ | refine qE ?_ | refine qW ?_ | refine qM ?_); try simp -dsimp (disch := first | omega | (simp only [qZ] <;> omega) | fail) only [push_cast, ↓qP, ↓reduceIte, seval, h3, hb.rdc]) | (refine qA ?_ ?_; (first | omega | (simp only [qL]; omega) | (simp only [qD] at *; omega))))
        refine Mid.mk ⟨by simp [upd, arg], by simp [upd, arg], by simp [upd, arg], by simp [upd, arg], _, _, hrec, ?_, Kp.refl _ _⟩
        rw [show J + 1 - xs.length = 0 by omega]; simp
    rintro F w2 hmid
    obtain ⟨f0, f1, f2, f3, l2, ys, ⟨A2, c2, hb2, ho2⟩, hys, k2⟩ := hmid.out
    clear hmid
    have hyl : ys.length = max xs.length (J + 1) := by rw [hys]; simp; omega
    have hym : ∀ y ∈ ys, y.length ≤ 1000000 := by
      intro y hy
      rw [hys] at hy
      rcases List.mem_append.1 hy with hy | hy
      · exact hlen y hy
      · simp [List.eq_of_mem_replicate hy]
    have hset : ys.set J s = setM xs (J + 1) s := by rw [hys]; rfl
    have hsm := setM_mem (i := J + 1) hlen hs
    clear hys
    have hlt2 := hb2.lt
    repeat (first | refine qS ?_ | refine qB ?_ | refine qT rfl ?_ | refine qF rfl ?_ | ((first | refine qR rfl ?_ | refine qK ?_ | refine qE ?_ | refine qW ?_ | refine qM ?_); try simp -dsimp (disch := first | omega | (simp only [qZ] <;> omega) | fail) only [push_cast, ↓qP, ↓reduceIte, seval, f0, hb2.rdc]) | (refine qA ?_ ?_; (first | omega | (simp only [qL]; omega) | (simp only [qD] at *; omega))))
    refine V_appendOwn _ _ _ rfl mk_54 rfl (Own.new w2 9 1 0 0 [] (by omega) (by unfold maxLen; omega) rfl) rfl (ho2.alloc _) (by omega) ?_
    intro A' cap' w3 hown' hgrow hat
    have hb3 : Blk w3 r 70 [.string (B l2), .slice A2 ys.length c2] := (((Kp.refl (fun _ => False) w2).alloc _).grown hgrow (fun g hg hlt => by simp [bk] at hg; omega)).Blk hb2 id
    have k3 : Kp (· = r) w w3 := (k2.alloc _).grown hgrow (fun g hg hlt => by simp [bk] at hg; have := k2.size; omega)
    obtain ⟨g, rfl, hg2⟩ : ∃ g, A' = some ⟨g, 0, none⟩ ∧ w2.heap.size ≤ g := by
      rcases hat with h | h
      · exact ⟨_, hown'.of_bk h, Nat.le_refl _⟩
      · exact ⟨_, hown'.of_bk h, by simp⟩
    rw [Nat.zero_add] at hown'
    have hown3 : Own w3 9 1 (some ⟨g, 0, none⟩) ys.length cap' (St ys) := hown'
    clear hown' hgrow hat
    have hgr : g ≠ r := by omega
    have hJy : J < ys.length := by omega
    have hcell : rdc w3 g J = some (.string (B ys[J])) := by rw [hown3.rdc J (by omega), St_get, List.getElem?_eq_getElem hJy]; rfl
    have hlt3 := hb3.lt
    have hgl := hown3.lt rfl
    have hwr : IntKind.i64.wrap ((J : Int) + 1 - 1) = (J : Int) := by rw [wrap_id (by omega)]; omega
    have hcc := hown3.some (by omega)
    refine Sm.out ?_
    repeat (first | refine qS ?_ | refine qB ?_ | refine qT rfl ?_ | refine qF rfl ?_ | ((first | refine qR rfl ?_ | refine qK ?_ | refine qE ?_ | refine qW ?_ | refine qM ?_); try simp -dsimp (disch := first | omega | (simp only [qZ] <;> omega) | fail) only [push_cast, ↓qP, ↓reduceIte, seval, f0, f1, f2, f3, hwr, hcell, hown3.fz, Nat.zero_add, hb3.rdc, hb3.fz]) | (refine qA ?_ ?_; (first | omega | (simp only [qL]; omega) | (simp only [qD] at *; omega))))
    have hown4 := (hown3.set J (.string (B s))).far (p := ⟨r, 1, none⟩) (by simp [bk]; omega) (.slice (some ⟨g, 0, none⟩) ys.length cap')
    have hb4 := (hb3.far (p := ⟨g, J, none⟩) (by simp; omega) (.string (B s))).set 1 (.slice (some ⟨g, 0, none⟩) ys.length cap')
    have k4 : Kp (· = r) w ((w3.setCell ⟨g, J, none⟩ (.string (B s))).setCell ⟨r, 1, none⟩ (.slice (some ⟨g, 0, none⟩) ys.length cap')) := Kp.setCell (Kp.setCell k3 (fun h => by have := k2.size; simp at h; omega) _) (fun _ => rfl) _
    generalize (w3.setCell ⟨g, J, none⟩ (.string (B s))).setCell ⟨r, 1, none⟩ (.slice (some ⟨g, 0, none⟩) ys.length cap') = w4 at *
    have hst : (St ys).set J (.string (B s)) = St (ys.set J s) := by simp [St, List.map_set]
    rw [hst] at hown4
    have hyz : ys.length = (ys.set J s).length := by simp
    rw [hset] at hown4 hyz
    generalize hzz : setM xs (J + 1) s = zs at *
    rw [hyz] at hown4 hb4
    rw [hyz]
    clear k3 hown3 hb3 hcell hlt3 hcc hb2 ho2 hlt2
    have hlt4 := hb4.lt
    refine CallV.of isCall_69 (join3_any hown4.Txt (by omega) ofs hsm ho') ?_
    rintro _ _ ⟨rfl, rfl⟩
    refine Sm.out ?_
    repeat (first | refine qS ?_ | refine qB ?_ | refine qT rfl ?_ | refine qF rfl ?_ | ((first | refine qR rfl ?_ | refine qK ?_ | refine qE ?_ | refine qW ?_ | refine qM ?_); try simp -dsimp (disch := first | omega | (simp only [qZ] <;> omega) | fail) only [push_cast, ↓qP, ↓reduceIte, seval, f0, f1, f2, f3, hb4.rdc, hb4.fz]) | (refine qA ?_ ?_; (first | omega | (simp only [qL]; omega) | (simp only [qD] at *; omega))))
    refine Ret.mk ?_
    rw [if_neg (by omega), show ((J : Int) + 1).toNat = J + 1 by omega, hzz]
    exact ⟨rfl, ⟨_, _, hb4.set 0 (.string (B (Lib.join zs ofs))), hown4.far (p := ⟨r, 0, none⟩) (by simp [bk]; omega) _⟩, k4.setCell (fun _ => rfl) _⟩
end
end Go.Proofs.Ytddichibegppjaa

/- Split by blanks, and by a byte. -/
namespace Go.Proofs.Ytddichibegppjaa
open Go Go.VC

theorem isbl_any (x : Nat) (w : World) : Calls Try.prog 66 #[.int .i32 x] w fun e w' => e = .returned (.bool (bp x)) ∧ w = w' := by
  refine enter (n := 13) (args := [.int .i32 (x : Int)]) Try.func66 rfl rfl rfl (by simp) ?_
  rcases Bool.eq_false_or_eq_true ((x : Int) == 32) with h1 | h1
  · repeat (first | refine qS ?_ | refine qB ?_ | refine qT rfl ?_ | refine qF rfl ?_ | ((first | refine qR rfl ?_ | refine qK ?_ | refine qE ?_ | refine qW ?_ | refine qM ?_); try simp -dsimp (disch := first | omega | (simp only [qZ] <;> omega) | fail) only [push_cast, ↓qP, ↓reduceIte, seval, h1]) | (refine qA ?_ ?_; (first | omega | (simp only [qL]; omega) | (simp only [qD] at *; omega))))
    have e : bp x = true := by simp [bp] at h1 ⊢; omega
    rw [e]
    exact Ret.mk ⟨rfl, rfl⟩
  rcases Bool.eq_false_or_eq_true ((x : Int) == 9) with h2 | h2
  · repeat (first | refine qS ?_ | refine qB ?_ | refine qT rfl ?_ | refine qF rfl ?_ | ((first | refine qR rfl ?_ | refine qK ?_ | refine qE ?_ | refine qW ?_ | refine qM ?_); try simp -dsimp (disch := first | omega | (simp only [qZ] <;> omega) | fail) only [push_cast, ↓qP, ↓reduceIte, seval, h1, h2]) | (refine qA ?_ ?_; (first | omega | (simp only [qL]; omega) | (simp only [qD] at *; omega))))
    have e : bp x = true := by simp [bp] at h2 ⊢; omega
    rw [e]
    exact Ret.mk ⟨rfl, rfl⟩
  · repeat (first | refine qS ?_ | refine qB ?_ | refine qT rfl ?_ | refine qF rfl ?_ | ((first | refine qR rfl ?_ | refine qK ?_ | refine qE ?_ | refine qW ?_ | refine qM ?_); try simp -dsimp (disch := first | omega | (simp only [qZ] <;> omega) | fail) only [push_cast, ↓qP, ↓reduceIte, seval, h1, h2]) | (refine qA ?_ ?_; (first | omega | (simp only [qL]; omega) | (simp only [qD] at *; omega))))
    refine Ret.mk ⟨?_, rfl⟩
    congr 2
    rw [Bool.eq_iff_iff]
    simp [bp] at h1 h2 ⊢; omega

theorem isbl_pays (w : World) : PredAtRunes Try.prog 66 #[] bp w := fun W x _ _ => by
  show Calls Try.prog 66 #[.int .i32 x] W _
  exact (isbl_any x W).mono fun e w' ⟨h1, h2⟩ => ⟨h1, 0, by subst h2; rfl⟩

theorem Kp0.of_below {B : Nat} {w w' : World} (h : RowKit.Below B w w') (hB : w.heap.size ≤ B) : Kp0 w w' := ⟨h.os, h.tape, h.output, h.size, fun k hk _ => h.block k (by omega)⟩

theorem own_low {w : World} {base e sz n cap : Nat} {A : Option Addr} {xs : List Value} (h : w.ownsRow base e sz (.slice A n cap) n xs) : Own w e sz A n cap xs :=
  ⟨h.1, h.2.imp id fun ⟨g, cp, cur, h1, _, h2⟩ => ⟨g, cp, cur, h1, Nat.zero_le _, h2⟩⟩

theorem split_blank (s : List UInt8) (b : Bool) (w : World) (hs : s.length ≤ 1000000) :
    Calls Try.prog 34 #[.string (B s), .string (B [32]), .bool b] w fun e w' => ∃ A c, e = .returned (.tuple #[.slice A (blanks s).length c, .bool true]) ∧ Own w' 9 1 A (blanks s).length c (St (blanks s)) ∧ Kp0 w w' := by
  refine enter (n := 102) (args := [.string (B s), .string (B [32]), .bool b]) Try.func34 rfl rfl rfl (by simp) ?_
  rcases Bool.eq_false_or_eq_true (s == []) with h1 | h1
  · have hs0 : s = [] := by simpa using h1
    repeat (first | refine qS ?_ | refine qB ?_ | refine qT rfl ?_ | refine qF rfl ?_ | ((first | refine qR rfl ?_ | refine qK ?_ | refine qE ?_ | refine qW ?_ | refine qM ?_); try simp -dsimp (disch := first | omega | (simp only [qZ] <;> omega) | fail) only [push_cast, ↓qP, ↓reduceIte, seval, h1]) | (refine qA ?_ ?_; (first | omega | (simp only [qL]; omega) | (simp only [qD] at *; omega))))
    subst hs0
    exact Ret.mk ⟨none, 0, rfl, Own.nil _ _ _, Kp.refl _ _⟩
  repeat (first | refine qS ?_ | refine qB ?_ | refine qT rfl ?_ | refine qF rfl ?_ | ((first | refine qR rfl ?_ | refine qK ?_ | refine qE ?_ | refine qW ?_ | refine qM ?_); try simp -dsimp (disch := first | omega | (simp only [qZ] <;> omega) | fail) only [push_cast, ↓qP, ↓reduceIte, seval, h1]) | (refine qA ?_ ?_; (first | omega | (simp only [qL]; omega) | (simp only [qD] at *; omega))))
  have hc := Try.strings_FieldsFunc_runes 66 #[] (Proofs.enters_of Try.func66 (by kernel_rfl) rfl) bp (B s) w (by rw [B_size]; omega) (isbl_pays w)
  rw [goFields_blanks, List.length_map, List.map_map] at hc
  refine CallV.of isCall_65 hc ?_
  rintro _ w' ⟨A, rfl, hA, hown, hbel⟩
  refine Sm.out ?_
  repeat (first | refine qS ?_ | refine qB ?_ | refine qT rfl ?_ | refine qF rfl ?_ | ((first | refine qR rfl ?_ | refine qK ?_ | refine qE ?_ | refine qW ?_ | refine qM ?_); try simp -dsimp (disch := first | omega | (simp only [qZ] <;> omega) | fail) only [push_cast, ↓qP, ↓reduceIte, seval]) | (refine qA ?_ ?_; (first | omega | (simp only [qL]; omega) | (simp only [qD] at *; omega))))
  exact Ret.mk ⟨_, _, rfl, own_low hown, Kp0.of_below hbel (Nat.le_refl _)⟩
end Go.Proofs.Ytddichibegppjaa

/- New; awake. -/
namespace Go.Proofs.Ytddichibegppjaa
open Go Go.VC

/-- Split answers these fields. -/
def Splits (w : World) (l sep : List UInt8) (b : Bool) (xs : List (List UInt8)) : Prop :=
  Calls Try.prog 34 #[.string (B l), .string (B sep), .bool b] w fun e w' => ∃ A c, e = .returned (.tuple #[.slice A xs.length c, .bool true]) ∧ Own w' 9 1 A xs.length c (St xs) ∧ Kp0 w w'

theorem new_any {w : World} {l sep : List UInt8} {b : Bool} {xs : List (List UInt8)} (h : Splits w l sep b xs) :
    Calls Try.prog 37 #[.string (B l), .string (B sep), .bool b] w fun e w' => ∃ r, e = .returned (.tuple #[.pointer (some ⟨r, 0, none⟩), .bool true]) ∧ w.heap.size ≤ r ∧ Rec w' r l xs ∧ Kp0 w w' := by
  refine enter (n := 23) (args := [.string (B l), .string (B sep), .bool b]) Try.func37 rfl rfl rfl (by simp) ?_
  repeat (first | refine qS ?_ | refine qB ?_ | refine qT rfl ?_ | refine qF rfl ?_ | ((first | refine qR rfl ?_ | refine qK ?_ | refine qE ?_ | refine qW ?_ | refine qM ?_); try simp -dsimp (disch := first | omega | (simp only [qZ] <;> omega) | fail) only [push_cast, ↓qP, ↓reduceIte, seval]) | (refine qA ?_ ?_; (first | omega | (simp only [qL]; omega) | (simp only [qD] at *; omega))))
  refine CallV.of isCall_34 h ?_
  rintro _ w' ⟨A, c, rfl, ho, hk⟩
  refine Sm.out ?_
  repeat (first | refine qS ?_ | refine qB ?_ | refine qT rfl ?_ | refine qF rfl ?_ | ((first | refine qR rfl ?_ | refine qK ?_ | refine qE ?_ | refine qW ?_ | refine qM ?_); try simp -dsimp (disch := first | omega | (simp only [qZ] <;> omega) | fail) only [push_cast, ↓qP, ↓reduceIte, seval]) | (refine qA ?_ ?_; (first | omega | (simp only [qL]; omega) | (simp only [qD] at *; omega))))
  refine Ret.mk ⟨w'.heap.size, rfl, hk.size, ⟨A, c, Blk.new _ _ _, ho.alloc _⟩, hk.alloc _⟩

theorem awake10 (w : World) : Calls Try.prog 33 #[] w fun e w' => e = .returned (.bool true) ∧ Kp0 w w' := by
  refine enter (n := 36) (args := []) Try.func33 rfl rfl rfl (by simp) ?_
  repeat (first | refine qS ?_ | refine qB ?_ | refine qT rfl ?_ | refine qF rfl ?_ | ((first | refine qR rfl ?_ | refine qK ?_ | refine qE ?_ | refine qW ?_ | refine qM ?_); try simp -dsimp (disch := first | omega | (simp only [qZ] <;> omega) | fail) only [push_cast, ↓qP, ↓reduceIte, seval]) | (refine qA ?_ ?_; (first | omega | (simp only [qL]; omega) | (simp only [qD] at *; omega))))
  refine CallV.of isCall_37 (new_any (split_blank _ _ _ (by decide))) ?_
  rintro _ w1 ⟨r, rfl, hr, hrec, hk⟩
  refine Sm.out ?_
  repeat (first | refine qS ?_ | refine qB ?_ | refine qT rfl ?_ | refine qF rfl ?_ | ((first | refine qR rfl ?_ | refine qK ?_ | refine qE ?_ | refine qW ?_ | refine qM ?_); try simp -dsimp (disch := first | omega | (simp only [qZ] <;> omega) | fail) only [push_cast, ↓qP, ↓reduceIte, seval]) | (refine qA ?_ ?_; (first | omega | (simp only [qL]; omega) | (simp only [qD] at *; omega))))
  refine CallV.of isCall_44 (get_any hrec 2 (by omega) (by decide)) ?_
  rintro _ _ ⟨rfl, rfl⟩
  have e1 : getM [97, 32, 98, 32, 99] (blanks [97, 32, 98, 32, 99]) 2 = ([98], true) := by decide
  refine Sm.out ?_
  repeat (first | refine qS ?_ | refine qB ?_ | refine qT rfl ?_ | refine qF rfl ?_ | ((first | refine qR rfl ?_ | refine qK ?_ | refine qE ?_ | refine qW ?_ | refine qM ?_); try simp -dsimp (disch := first | omega | (simp only [qZ] <;> omega) | fail) only [push_cast, ↓qP, ↓reduceIte, seval, e1, beq_self_eq_true]) | (refine qA ?_ ?_; (first | omega | (simp only [qL]; omega) | (simp only [qD] at *; omega))))
  refine CallV.of isCall_40 (nf_any hrec) ?_
  rintro _ _ ⟨rfl, rfl⟩
  have e2 : ((blanks [97, 32, 98, 32, 99]).length : Int) = 3 := by decide
  have e3 : ((3 : Int) == 3) = true := rfl
  refine Sm.out ?_
  repeat (first | refine qS ?_ | refine qB ?_ | refine qT rfl ?_ | refine qF rfl ?_ | ((first | refine qR rfl ?_ | refine qK ?_ | refine qE ?_ | refine qW ?_ | refine qM ?_); try simp -dsimp (disch := first | omega | (simp only [qZ] <;> omega) | fail) only [push_cast, ↓qP, ↓reduceIte, seval, e2, e3]) | (refine qA ?_ ?_; (first | omega | (simp only [qL]; omega) | (simp only [qD] at *; omega))))
  refine CallV.of isCall_38 (set_any hrec 2 (by omega) (by decide) [120] [45] (by decide) (by decide) (by decide)) ?_
  intro e w2 hp
  rw [if_neg (by decide)] at hp
  obtain ⟨rfl, hrec2, hk2⟩ := hp
  refine Sm.out ?_
  repeat (first | refine qS ?_ | refine qB ?_ | refine qT rfl ?_ | refine qF rfl ?_ | ((first | refine qR rfl ?_ | refine qK ?_ | refine qE ?_ | refine qW ?_ | refine qM ?_); try simp -dsimp (disch := first | omega | (simp only [qZ] <;> omega) | fail) only [push_cast, ↓qP, ↓reduceIte, seval]) | (refine qA ?_ ?_; (first | omega | (simp only [qL]; omega) | (simp only [qD] at *; omega))))
  refine CallV.of isCall_39 (line_any hrec2) ?_
  rintro _ _ ⟨rfl, rfl⟩
  have e4 : (Lib.join (setM (blanks [97, 32, 98, 32, 99]) (2 : Int).toNat [120]) [45] == [97, 45, 120, 45, 99]) = true := by decide
  refine Sm.out ?_
  repeat (first | refine qS ?_ | refine qB ?_ | refine qT rfl ?_ | refine qF rfl ?_ | ((first | refine qR rfl ?_ | refine qK ?_ | refine qE ?_ | refine qW ?_ | refine qM ?_); try simp -dsimp (disch := first | omega | (simp only [qZ] <;> omega) | fail) only [push_cast, ↓qP, ↓reduceIte, seval, e4]) | (refine qA ?_ ?_; (first | omega | (simp only [qL]; omega) | (simp only [qD] at *; omega))))
  exact Ret.mk ⟨rfl, hk.trans' hk2 (fun i hi he => by omega)⟩
end Go.Proofs.Ytddichibegppjaa

/- Split by a byte. -/
namespace Go.Proofs.Ytddichibegppjaa
open Go Go.VC

def sp (p : UInt8 → Bool) : List UInt8 → List UInt8 → List (List UInt8)
  | cur, [] => [cur]
  | cur, c :: l => if p c then cur :: sp p [] l else sp p (cur ++ [c]) l
def bysep (p : UInt8 → Bool) (s : List UInt8) : List (List UInt8) := if s = [] then [] else sp p [] s
def cutp (c0 : UInt8) (b : Bool) (c : UInt8) : Bool := c == c0 || (b && c == 10)

theorem u8_eq (a b : UInt8) : ((a.toNat : Int) == (b.toNat : Int)) = (a == b) := by
  rw [Bool.eq_iff_iff]; simp [← UInt8.toNat_inj]; omega

theorem sp_step {s : List UInt8} {k st : Nat} {p : UInt8 → Bool} (hk : k < s.length) (hst : st ≤ k) :
    sp p ((s.drop st).take (k - st)) (s.drop k) = if p s[k] then (s.drop st).take (k - st) :: sp p ((s.drop (k + 1)).take (k + 1 - (k + 1))) (s.drop (k + 1)) else sp p ((s.drop st).take (k + 1 - st)) (s.drop (k + 1)) := by
  rw [List.drop_eq_getElem_cons hk]
  simp only [sp, Nat.sub_self, List.take_zero]
  congr 2
  rw [show k + 1 - st = (k - st) + 1 by omega, List.take_add_one, List.getElem?_drop, show st + (k - st) = k by omega, List.getElem?_eq_getElem hk]
  rfl

theorem split_byte (s : List UInt8) (c0 : UInt8) (b : Bool) (w : World) (hs : s.length ≤ 1000000) (hc : c0 ≠ 32) : Splits w s [c0] b (bysep (cutp c0 b) s) := by
  unfold Splits
  refine enter (n := 102) (args := [.string (B s), .string (B [c0]), .bool b]) Try.func34 rfl rfl rfl (by simp) ?_
  rcases Bool.eq_false_or_eq_true (s == []) with h1 | h1
  · have hs0 : s = [] := by simpa using h1
    repeat (first | refine qS ?_ | refine qB ?_ | refine qT rfl ?_ | refine qF rfl ?_ | ((first | refine qR rfl ?_ | refine qK ?_ | refine qE ?_ | refine qW ?_ | refine qM ?_); try simp -dsimp (maxSteps := 2000000) (disch := first | omega | (simp only [qZ] <;> omega) | fail) only [push_cast, ↓qP, ↓reduceIte, Nat.reduceEqDiff, Nat.reduceAdd, Nat.reduceMul, Nat.reduceSub, Nat.reduceLeDiff, Int.reduceToNat, reduceCtorEq, h1]) | (refine qA ?_ ?_; (first | omega | (simp only [qL]; omega) | (simp only [qD] at *; omega))))
    subst hs0
    exact Ret.mk ⟨none, 0, rfl, Own.nil _ _ _, Kp.refl _ _⟩
  have hs0 : s ≠ [] := by simpa using h1
  have h2 : ([c0] == [32]) = false := by simpa using hc
  have h3 : ([c0] == []) = false := rfl
  have hbs : bysep (cutp c0 b) s = sp (cutp c0 b) [] s := if_neg hs0
  rw [hbs]
  generalize hp : cutp c0 b = p
  repeat (first | refine qS ?_ | refine qB ?_ | refine qT rfl ?_ | refine qF rfl ?_ | ((first | refine qR rfl ?_ | refine qK ?_ | refine qE ?_ | refine qW ?_ | refine qM ?_); try simp -dsimp (maxSteps := 2000000) (disch := first | omega | (simp only [qZ] <;> omega) | fail) only [push_cast, ↓qP, ↓reduceIte, Nat.reduceEqDiff, Nat.reduceAdd, Nat.reduceMul, Nat.reduceSub, Nat.reduceLeDiff, Int.reduceToNat, reduceCtorEq, h1, h2, h3]) | (refine qA ?_ ?_; (first | omega | (simp only [qL]; omega) | (simp only [qD] at *; omega))))
  refine Wp.loop (α := Nat) (fun k F w2 => ∃ A cap xs, ∃ st : Nat, F 0 = .string (B s) ∧ F 1 = .string (B [c0]) ∧ F 2 = .bool b ∧ F 12 = .slice A xs.length cap ∧ F 13 = .int .i64 st ∧ F 67 = .int .i64 s.length ∧ F 68 = .int .i64 k ∧ k ≤ s.length ∧ st ≤ k ∧ xs.length ≤ k ∧
      Own w2 9 1 A xs.length cap (St xs) ∧ (∀ g, bk A = some g → w.heap.size ≤ g) ∧ Kp0 w w2 ∧ xs ++ sp p ((s.drop st).take (k - st)) (s.drop k) = sp p [] s) (fun k => s.length - k) 0
    ⟨none, 0, [], 0, ?_, ?_, ?_, ?_, ?_, ?_, ?_, by omega, by omega, by simp, Own.nil _ _ _, by simp [bk], Kp.refl _ _, by simp⟩ ?_
  · simp -dsimp (maxSteps := 2000000) (disch := first | omega | (simp only [qZ] <;> omega) | fail) only [push_cast, ↓qP, ↓reduceIte, Nat.reduceEqDiff, Nat.reduceAdd, Nat.reduceMul, Nat.reduceSub, Nat.reduceLeDiff, Int.reduceToNat, reduceCtorEq]
  · simp -dsimp (maxSteps := 2000000) (disch := first | omega | (simp only [qZ] <;> omega) | fail) only [push_cast, ↓qP, ↓reduceIte, Nat.reduceEqDiff, Nat.reduceAdd, Nat.reduceMul, Nat.reduceSub, Nat.reduceLeDiff, Int.reduceToNat, reduceCtorEq]
  · simp -dsimp (maxSteps := 2000000) (disch := first | omega | (simp only [qZ] <;> omega) | fail) only [push_cast, ↓qP, ↓reduceIte, Nat.reduceEqDiff, Nat.reduceAdd, Nat.reduceMul, Nat.reduceSub, Nat.reduceLeDiff, Int.reduceToNat, reduceCtorEq]
  · simp -dsimp (maxSteps := 2000000) (disch := first | omega | (simp only [qZ] <;> omega) | fail) only [push_cast, ↓qP, ↓reduceIte, Nat.reduceEqDiff, Nat.reduceAdd, Nat.reduceMul, Nat.reduceSub, Nat.reduceLeDiff, Int.reduceToNat, reduceCtorEq]
  · simp -dsimp (maxSteps := 2000000) (disch := first | omega | (simp only [qZ] <;> omega) | fail) only [push_cast, ↓qP, ↓reduceIte, Nat.reduceEqDiff, Nat.reduceAdd, Nat.reduceMul, Nat.reduceSub, Nat.reduceLeDiff, Int.reduceToNat, reduceCtorEq]
  · simp -dsimp (maxSteps := 2000000) (disch := first | omega | (simp only [qZ] <;> omega) | fail) only [push_cast, ↓qP, ↓reduceIte, Nat.reduceEqDiff, Nat.reduceAdd, Nat.reduceMul, Nat.reduceSub, Nat.reduceLeDiff, Int.reduceToNat, reduceCtorEq]
  · simp -dsimp (maxSteps := 2000000) (disch := first | omega | (simp only [qZ] <;> omega) | fail) only [push_cast, ↓qP, ↓reduceIte, Nat.reduceEqDiff, Nat.reduceAdd, Nat.reduceMul, Nat.reduceSub, Nat.reduceLeDiff, Int.reduceToNat, reduceCtorEq]
  rintro k F w2 ⟨A, cap, xs, st, f0, f1, f2, f12, f13, f67, f68, hk, hst, hxk, hown, hnew, hkp, hsp⟩
  rcases Bool.eq_false_or_eq_true (decide ((k : Int) < (s.length : Int))) with h4 | h4
  · have hk' : k < s.length := by simpa using h4
    have hbt : bt (B s) k = (s[k].toNat : Int) := by rw [bt_B]; simp [hk']
    have hb0 : bt (B [c0]) 0 = (c0.toNat : Int) := by rw [bt_B]; rfl
    have h10 : ((s[k].toNat : Int) == 10) = (s[k] == 10) := u8_eq s[k] 10
    have hwr : IntKind.i64.wrap ((k : Int) + 1) = ((k + 1 : Nat) : Int) := by rw [wrap_id (by omega)]; omega
    rw [sp_step hk' hst] at hsp
    have hpk : p s[k] = (s[k] == c0 || (b && s[k] == 10)) := by rw [← hp]; rfl
    repeat (first | refine qS ?_ | refine qB ?_ | refine qT rfl ?_ | refine qF rfl ?_ | ((first | refine qR rfl ?_ | refine qK ?_ | refine qE ?_ | refine qW ?_ | refine qM ?_); try simp -dsimp (maxSteps := 2000000) (disch := first | omega | (simp only [qZ] <;> omega) | fail) only [push_cast, ↓qP, ↓reduceIte, Nat.reduceEqDiff, Nat.reduceAdd, Nat.reduceMul, Nat.reduceSub, Nat.reduceLeDiff, Int.reduceToNat, reduceCtorEq, f0, f1, f2, f12, f13, f67, f68, h4]) | (refine qA ?_ ?_; (first | omega | (simp only [qL]; omega) | (simp only [qD] at *; omega))))
    rcases Bool.eq_false_or_eq_true (s[k] == c0) with e1 | e1
    · have hpv : p s[k] = true := by rw [hpk]; simp [e1]
      rw [hpv, if_pos rfl] at hsp
      refine Wp.draw [0, 0, 3, 0, 8, 31, 63, 127, 255, 511, 511, 2047, 4095, 8191, 16383] [] (.op 0 false false [] <| .op 1 false false [] <| .op 2 false false [] <| .op 3 false false [] <| .op 4 false false [] <| .op 5 false false [] <| .op 6 false false [] <| .op 7 false false [] <| .op 8 false false [] <| .op 9 false false [] <| .op 10 false false [] <| .op 11 false false [] <| .op 12 false false [] <| .op 13 false false [] <| .op 14 false false [] <| .nil) mixed (by kernel_rfl) ?_
      simp -dsimp (maxSteps := 2000000) (disch := first | omega | (simp only [qZ] <;> omega) | fail) only [push_cast, ↓qP, ↓reduceIte, Nat.reduceEqDiff, Nat.reduceAdd, Nat.reduceMul, Nat.reduceSub, Nat.reduceLeDiff, Int.reduceToNat, reduceCtorEq, f0, f1, f2, f12, f13, f67, f68, hbt, hb0, u8_eq, h10, e1]
      refine ⟨by omega, by simp, ?_⟩
      refine Sm.out ?_
      repeat (first | refine qS ?_ | refine qB ?_ | refine qT rfl ?_ | refine qF rfl ?_ | ((first | refine qR rfl ?_ | refine qK ?_ | refine qE ?_ | refine qW ?_ | refine qM ?_); try simp -dsimp (maxSteps := 2000000) (disch := first | omega | (simp only [qZ] <;> omega) | fail) only [push_cast, ↓qP, ↓reduceIte, Nat.reduceEqDiff, Nat.reduceAdd, Nat.reduceMul, Nat.reduceSub, Nat.reduceLeDiff, Int.reduceToNat, reduceCtorEq, e1, f0, f1, f2, f12, f13, f67, f68, hwr]) | (refine qA ?_ ?_; (first | omega | (simp only [qL]; omega) | (simp only [qD] at *; omega))))
      refine V_append (m := 1) _ _ _ rfl mk_54 rfl (hown.drew.alloc _) rfl [.string (B ((s.drop st).take (k - st)))] ?r rfl (by omega) (by omega) ?k
      case r => simp -dsimp (maxSteps := 2000000) (disch := first | omega | (simp only [qZ] <;> omega) | fail) only [push_cast, ↓qP, ↓reduceIte, Nat.reduceEqDiff, Nat.reduceAdd, Nat.reduceMul, Nat.reduceSub, Nat.reduceLeDiff, Int.reduceToNat, reduceCtorEq]
      case k =>
        intro A' cap' w3 hown' hgrow hat
        refine Sm.out ?_
        repeat (first | refine qS ?_ | refine qB ?_ | refine qT rfl ?_ | refine qF rfl ?_ | ((first | refine qR rfl ?_ | refine qK ?_ | refine qE ?_ | refine qW ?_ | refine qM ?_); try simp -dsimp (maxSteps := 2000000) (disch := first | omega | (simp only [qZ] <;> omega) | fail) only [push_cast, ↓qP, ↓reduceIte, Nat.reduceEqDiff, Nat.reduceAdd, Nat.reduceMul, Nat.reduceSub, Nat.reduceLeDiff, Int.reduceToNat, reduceCtorEq, f0, f1, f2, f12, f13, f67, f68, hwr]) | (refine qA ?_ ?_; (first | omega | (simp only [qL]; omega) | (simp only [qD] at *; omega))))
        refine Again.mk (k + 1) ⟨A', cap', xs ++ [(s.drop st).take (k - st)], k + 1, ?_, ?_, ?_, ?_, ?_, ?_, ?_, by omega, by omega, by simp; omega, ?_, ?_, ((hkp.drew).alloc _).grown hgrow (fun g hg hlt => by have := hnew g hg; omega), ?_⟩ (by omega)
        · simp -dsimp (maxSteps := 2000000) (disch := first | omega | (simp only [qZ] <;> omega) | fail) only [push_cast, ↓qP, ↓reduceIte, Nat.reduceEqDiff, Nat.reduceAdd, Nat.reduceMul, Nat.reduceSub, Nat.reduceLeDiff, Int.reduceToNat, reduceCtorEq, f0]
        · simp -dsimp (maxSteps := 2000000) (disch := first | omega | (simp only [qZ] <;> omega) | fail) only [push_cast, ↓qP, ↓reduceIte, Nat.reduceEqDiff, Nat.reduceAdd, Nat.reduceMul, Nat.reduceSub, Nat.reduceLeDiff, Int.reduceToNat, reduceCtorEq, f1]
        · simp -dsimp (maxSteps := 2000000) (disch := first | omega | (simp only [qZ] <;> omega) | fail) only [push_cast, ↓qP, ↓reduceIte, Nat.reduceEqDiff, Nat.reduceAdd, Nat.reduceMul, Nat.reduceSub, Nat.reduceLeDiff, Int.reduceToNat, reduceCtorEq, f2]
        · simp -dsimp (maxSteps := 2000000) (disch := first | omega | (simp only [qZ] <;> omega) | fail) only [push_cast, ↓qP, ↓reduceIte, Nat.reduceEqDiff, Nat.reduceAdd, Nat.reduceMul, Nat.reduceSub, Nat.reduceLeDiff, Int.reduceToNat, reduceCtorEq, List.length_append]
        · simp -dsimp (maxSteps := 2000000) (disch := first | omega | (simp only [qZ] <;> omega) | fail) only [push_cast, ↓qP, ↓reduceIte, Nat.reduceEqDiff, Nat.reduceAdd, Nat.reduceMul, Nat.reduceSub, Nat.reduceLeDiff, Int.reduceToNat, reduceCtorEq, hwr]
        · simp -dsimp (maxSteps := 2000000) (disch := first | omega | (simp only [qZ] <;> omega) | fail) only [push_cast, ↓qP, ↓reduceIte, Nat.reduceEqDiff, Nat.reduceAdd, Nat.reduceMul, Nat.reduceSub, Nat.reduceLeDiff, Int.reduceToNat, reduceCtorEq, f67]
        · simp -dsimp (maxSteps := 2000000) (disch := first | omega | (simp only [qZ] <;> omega) | fail) only [push_cast, ↓qP, ↓reduceIte, Nat.reduceEqDiff, Nat.reduceAdd, Nat.reduceMul, Nat.reduceSub, Nat.reduceLeDiff, Int.reduceToNat, reduceCtorEq, hwr]
        · rw [St_append, List.length_append]; exact hown'
        · intro g hg
          rcases hat with h | h
          · exact hnew g (h ▸ hg)
          · rw [h] at hg; simp at hg; subst hg; have := hkp.size; simp; omega
        · rw [← hsp]; simp
    rcases Bool.eq_false_or_eq_true b with e2 | e2
    · subst e2
      rcases Bool.eq_false_or_eq_true (s[k] == 10) with e3 | e3
      · have hpv : p s[k] = true := by rw [hpk]; simp [e1, e3]
        rw [hpv, if_pos rfl] at hsp
        refine Wp.draw [0, 0, 3, 0, 8, 31, 63, 127, 255, 511, 511, 2047, 4095, 8191, 16383] [] (.op 0 false false [] <| .op 1 false false [] <| .op 2 false false [] <| .op 3 false false [] <| .op 4 false false [] <| .op 5 false false [] <| .op 6 false false [] <| .op 7 false false [] <| .op 8 false false [] <| .op 9 false false [] <| .op 10 false false [] <| .op 11 false false [] <| .op 12 false false [] <| .op 13 false false [] <| .op 14 false false [] <| .nil) mixed (by kernel_rfl) ?_
        simp -dsimp (maxSteps := 2000000) (disch := first | omega | (simp only [qZ] <;> omega) | fail) only [push_cast, ↓qP, ↓reduceIte, Nat.reduceEqDiff, Nat.reduceAdd, Nat.reduceMul, Nat.reduceSub, Nat.reduceLeDiff, Int.reduceToNat, reduceCtorEq, f0, f1, f2, f12, f13, f67, f68, hbt, hb0, u8_eq, h10, e1, e3]
        refine ⟨by omega, by simp, ?_⟩
        refine Sm.out ?_
        repeat (first | refine qS ?_ | refine qB ?_ | refine qT rfl ?_ | refine qF rfl ?_ | ((first | refine qR rfl ?_ | refine qK ?_ | refine qE ?_ | refine qW ?_ | refine qM ?_); try simp -dsimp (maxSteps := 2000000) (disch := first | omega | (simp only [qZ] <;> omega) | fail) only [push_cast, ↓qP, ↓reduceIte, Nat.reduceEqDiff, Nat.reduceAdd, Nat.reduceMul, Nat.reduceSub, Nat.reduceLeDiff, Int.reduceToNat, reduceCtorEq, e1, e3, f0, f1, f2, f12, f13, f67, f68, hwr]) | (refine qA ?_ ?_; (first | omega | (simp only [qL]; omega) | (simp only [qD] at *; omega))))
        refine V_append (m := 1) _ _ _ rfl mk_54 rfl (hown.drew.alloc _) rfl [.string (B ((s.drop st).take (k - st)))] ?r rfl (by omega) (by omega) ?k
        case r => simp -dsimp (maxSteps := 2000000) (disch := first | omega | (simp only [qZ] <;> omega) | fail) only [push_cast, ↓qP, ↓reduceIte, Nat.reduceEqDiff, Nat.reduceAdd, Nat.reduceMul, Nat.reduceSub, Nat.reduceLeDiff, Int.reduceToNat, reduceCtorEq]
        case k =>
          intro A' cap' w3 hown' hgrow hat
          refine Sm.out ?_
          repeat (first | refine qS ?_ | refine qB ?_ | refine qT rfl ?_ | refine qF rfl ?_ | ((first | refine qR rfl ?_ | refine qK ?_ | refine qE ?_ | refine qW ?_ | refine qM ?_); try simp -dsimp (maxSteps := 2000000) (disch := first | omega | (simp only [qZ] <;> omega) | fail) only [push_cast, ↓qP, ↓reduceIte, Nat.reduceEqDiff, Nat.reduceAdd, Nat.reduceMul, Nat.reduceSub, Nat.reduceLeDiff, Int.reduceToNat, reduceCtorEq, f0, f1, f2, f12, f13, f67, f68, hwr]) | (refine qA ?_ ?_; (first | omega | (simp only [qL]; omega) | (simp only [qD] at *; omega))))
          refine Again.mk (k + 1) ⟨A', cap', xs ++ [(s.drop st).take (k - st)], k + 1, ?_, ?_, ?_, ?_, ?_, ?_, ?_, by omega, by omega, by simp; omega, ?_, ?_, ((hkp.drew).alloc _).grown hgrow (fun g hg hlt => by have := hnew g hg; omega), ?_⟩ (by omega)
          · simp -dsimp (maxSteps := 2000000) (disch := first | omega | (simp only [qZ] <;> omega) | fail) only [push_cast, ↓qP, ↓reduceIte, Nat.reduceEqDiff, Nat.reduceAdd, Nat.reduceMul, Nat.reduceSub, Nat.reduceLeDiff, Int.reduceToNat, reduceCtorEq, f0]
          · simp -dsimp (maxSteps := 2000000) (disch := first | omega | (simp only [qZ] <;> omega) | fail) only [push_cast, ↓qP, ↓reduceIte, Nat.reduceEqDiff, Nat.reduceAdd, Nat.reduceMul, Nat.reduceSub, Nat.reduceLeDiff, Int.reduceToNat, reduceCtorEq, f1]
          · simp -dsimp (maxSteps := 2000000) (disch := first | omega | (simp only [qZ] <;> omega) | fail) only [push_cast, ↓qP, ↓reduceIte, Nat.reduceEqDiff, Nat.reduceAdd, Nat.reduceMul, Nat.reduceSub, Nat.reduceLeDiff, Int.reduceToNat, reduceCtorEq, f2]
          · simp -dsimp (maxSteps := 2000000) (disch := first | omega | (simp only [qZ] <;> omega) | fail) only [push_cast, ↓qP, ↓reduceIte, Nat.reduceEqDiff, Nat.reduceAdd, Nat.reduceMul, Nat.reduceSub, Nat.reduceLeDiff, Int.reduceToNat, reduceCtorEq, List.length_append]
          · simp -dsimp (maxSteps := 2000000) (disch := first | omega | (simp only [qZ] <;> omega) | fail) only [push_cast, ↓qP, ↓reduceIte, Nat.reduceEqDiff, Nat.reduceAdd, Nat.reduceMul, Nat.reduceSub, Nat.reduceLeDiff, Int.reduceToNat, reduceCtorEq, hwr]
          · simp -dsimp (maxSteps := 2000000) (disch := first | omega | (simp only [qZ] <;> omega) | fail) only [push_cast, ↓qP, ↓reduceIte, Nat.reduceEqDiff, Nat.reduceAdd, Nat.reduceMul, Nat.reduceSub, Nat.reduceLeDiff, Int.reduceToNat, reduceCtorEq, f67]
          · simp -dsimp (maxSteps := 2000000) (disch := first | omega | (simp only [qZ] <;> omega) | fail) only [push_cast, ↓qP, ↓reduceIte, Nat.reduceEqDiff, Nat.reduceAdd, Nat.reduceMul, Nat.reduceSub, Nat.reduceLeDiff, Int.reduceToNat, reduceCtorEq, hwr]
          · rw [St_append, List.length_append]; exact hown'
          · intro g hg
            rcases hat with h | h
            · exact hnew g (h ▸ hg)
            · rw [h] at hg; simp at hg; subst hg; have := hkp.size; simp; omega
          · rw [← hsp]; simp
      · have hpv : p s[k] = false := by rw [hpk]; simp [e1, e3]
        rw [hpv, if_neg (by simp)] at hsp
        refine Wp.draw [0, 0, 3, 0, 8, 31, 63, 127, 255, 511, 511, 2047, 4095, 8191, 16383] [] (.op 0 false false [] <| .op 1 false false [] <| .op 2 false false [] <| .op 3 false false [] <| .op 4 false false [] <| .op 5 false false [] <| .op 6 false false [] <| .op 7 false false [] <| .op 8 false false [] <| .op 9 false false [] <| .op 10 false false [] <| .op 11 false false [] <| .op 12 false false [] <| .op 13 false false [] <| .op 14 false false [] <| .nil) mixed (by kernel_rfl) ?_
        simp -dsimp (maxSteps := 2000000) (disch := first | omega | (simp only [qZ] <;> omega) | fail) only [push_cast, ↓qP, ↓reduceIte, Nat.reduceEqDiff, Nat.reduceAdd, Nat.reduceMul, Nat.reduceSub, Nat.reduceLeDiff, Int.reduceToNat, reduceCtorEq, f0, f1, f2, f12, f13, f67, f68, hbt, hb0, u8_eq, h10, e1, e3]
        refine ⟨by omega, by simp, ?_⟩
        refine Sm.out ?_
        repeat (first | refine qS ?_ | refine qB ?_ | refine qT rfl ?_ | refine qF rfl ?_ | ((first | refine qR rfl ?_ | refine qK ?_ | refine qE ?_ | refine qW ?_ | refine qM ?_); try simp -dsimp (maxSteps := 2000000) (disch := first | omega | (simp only [qZ] <;> omega) | fail) only [push_cast, ↓qP, ↓reduceIte, Nat.reduceEqDiff, Nat.reduceAdd, Nat.reduceMul, Nat.reduceSub, Nat.reduceLeDiff, Int.reduceToNat, reduceCtorEq, e1, e3, f0, f1, f2, f12, f13, f67, f68, hwr]) | (refine qA ?_ ?_; (first | omega | (simp only [qL]; omega) | (simp only [qD] at *; omega))))
        refine Again.mk (k + 1) ⟨A, cap, xs, st, ?_, ?_, ?_, ?_, ?_, ?_, ?_, by omega, by omega, by omega, hown.drew, hnew, hkp.drew, hsp⟩ (by omega)
        · simp -dsimp (maxSteps := 2000000) (disch := first | omega | (simp only [qZ] <;> omega) | fail) only [push_cast, ↓qP, ↓reduceIte, Nat.reduceEqDiff, Nat.reduceAdd, Nat.reduceMul, Nat.reduceSub, Nat.reduceLeDiff, Int.reduceToNat, reduceCtorEq, f0]
        · simp -dsimp (maxSteps := 2000000) (disch := first | omega | (simp only [qZ] <;> omega) | fail) only [push_cast, ↓qP, ↓reduceIte, Nat.reduceEqDiff, Nat.reduceAdd, Nat.reduceMul, Nat.reduceSub, Nat.reduceLeDiff, Int.reduceToNat, reduceCtorEq, f1]
        · simp -dsimp (maxSteps := 2000000) (disch := first | omega | (simp only [qZ] <;> omega) | fail) only [push_cast, ↓qP, ↓reduceIte, Nat.reduceEqDiff, Nat.reduceAdd, Nat.reduceMul, Nat.reduceSub, Nat.reduceLeDiff, Int.reduceToNat, reduceCtorEq, f2]
        · simp -dsimp (maxSteps := 2000000) (disch := first | omega | (simp only [qZ] <;> omega) | fail) only [push_cast, ↓qP, ↓reduceIte, Nat.reduceEqDiff, Nat.reduceAdd, Nat.reduceMul, Nat.reduceSub, Nat.reduceLeDiff, Int.reduceToNat, reduceCtorEq, f12]
        · simp -dsimp (maxSteps := 2000000) (disch := first | omega | (simp only [qZ] <;> omega) | fail) only [push_cast, ↓qP, ↓reduceIte, Nat.reduceEqDiff, Nat.reduceAdd, Nat.reduceMul, Nat.reduceSub, Nat.reduceLeDiff, Int.reduceToNat, reduceCtorEq, f13]
        · simp -dsimp (maxSteps := 2000000) (disch := first | omega | (simp only [qZ] <;> omega) | fail) only [push_cast, ↓qP, ↓reduceIte, Nat.reduceEqDiff, Nat.reduceAdd, Nat.reduceMul, Nat.reduceSub, Nat.reduceLeDiff, Int.reduceToNat, reduceCtorEq, f67]
        · simp -dsimp (maxSteps := 2000000) (disch := first | omega | (simp only [qZ] <;> omega) | fail) only [push_cast, ↓qP, ↓reduceIte, Nat.reduceEqDiff, Nat.reduceAdd, Nat.reduceMul, Nat.reduceSub, Nat.reduceLeDiff, Int.reduceToNat, reduceCtorEq, hwr]
    · subst e2
      have hpv : p s[k] = false := by rw [hpk]; simp [e1]
      rw [hpv, if_neg (by simp)] at hsp
      refine Wp.draw [0, 0, 3, 0, 8, 31, 63, 127, 255, 511, 511, 2047, 4095, 8191, 16383] [] (.op 0 false false [] <| .op 1 false false [] <| .op 2 false false [] <| .op 3 false false [] <| .op 4 false false [] <| .op 5 false false [] <| .op 6 false false [] <| .op 7 false false [] <| .op 8 false false [] <| .op 9 false false [] <| .op 10 false false [] <| .op 11 false false [] <| .op 12 false false [] <| .op 13 false false [] <| .op 14 false false [] <| .nil) mixed (by kernel_rfl) ?_
      simp -dsimp (maxSteps := 2000000) (disch := first | omega | (simp only [qZ] <;> omega) | fail) only [push_cast, ↓qP, ↓reduceIte, Nat.reduceEqDiff, Nat.reduceAdd, Nat.reduceMul, Nat.reduceSub, Nat.reduceLeDiff, Int.reduceToNat, reduceCtorEq, f0, f1, f2, f12, f13, f67, f68, hbt, hb0, u8_eq, h10, e1]
      refine ⟨by omega, by simp, ?_⟩
      refine Sm.out ?_
      repeat (first | refine qS ?_ | refine qB ?_ | refine qT rfl ?_ | refine qF rfl ?_ | ((first | refine qR rfl ?_ | refine qK ?_ | refine qE ?_ | refine qW ?_ | refine qM ?_); try simp -dsimp (maxSteps := 2000000) (disch := first | omega | (simp only [qZ] <;> omega) | fail) only [push_cast, ↓qP, ↓reduceIte, Nat.reduceEqDiff, Nat.reduceAdd, Nat.reduceMul, Nat.reduceSub, Nat.reduceLeDiff, Int.reduceToNat, reduceCtorEq, e1, f0, f1, f2, f12, f13, f67, f68, hwr]) | (refine qA ?_ ?_; (first | omega | (simp only [qL]; omega) | (simp only [qD] at *; omega))))
      refine Again.mk (k + 1) ⟨A, cap, xs, st, ?_, ?_, ?_, ?_, ?_, ?_, ?_, by omega, by omega, by omega, hown.drew, hnew, hkp.drew, hsp⟩ (by omega)
      · simp -dsimp (maxSteps := 2000000) (disch := first | omega | (simp only [qZ] <;> omega) | fail) only [push_cast, ↓qP, ↓reduceIte, Nat.reduceEqDiff, Nat.reduceAdd, Nat.reduceMul, Nat.reduceSub, Nat.reduceLeDiff, Int.reduceToNat, reduceCtorEq, f0]
      · simp -dsimp (maxSteps := 2000000) (disch := first | omega | (simp only [qZ] <;> omega) | fail) only [push_cast, ↓qP, ↓reduceIte, Nat.reduceEqDiff, Nat.reduceAdd, Nat.reduceMul, Nat.reduceSub, Nat.reduceLeDiff, Int.reduceToNat, reduceCtorEq, f1]
      · simp -dsimp (maxSteps := 2000000) (disch := first | omega | (simp only [qZ] <;> omega) | fail) only [push_cast, ↓qP, ↓reduceIte, Nat.reduceEqDiff, Nat.reduceAdd, Nat.reduceMul, Nat.reduceSub, Nat.reduceLeDiff, Int.reduceToNat, reduceCtorEq, f2]
      · simp -dsimp (maxSteps := 2000000) (disch := first | omega | (simp only [qZ] <;> omega) | fail) only [push_cast, ↓qP, ↓reduceIte, Nat.reduceEqDiff, Nat.reduceAdd, Nat.reduceMul, Nat.reduceSub, Nat.reduceLeDiff, Int.reduceToNat, reduceCtorEq, f12]
      · simp -dsimp (maxSteps := 2000000) (disch := first | omega | (simp only [qZ] <;> omega) | fail) only [push_cast, ↓qP, ↓reduceIte, Nat.reduceEqDiff, Nat.reduceAdd, Nat.reduceMul, Nat.reduceSub, Nat.reduceLeDiff, Int.reduceToNat, reduceCtorEq, f13]
      · simp -dsimp (maxSteps := 2000000) (disch := first | omega | (simp only [qZ] <;> omega) | fail) only [push_cast, ↓qP, ↓reduceIte, Nat.reduceEqDiff, Nat.reduceAdd, Nat.reduceMul, Nat.reduceSub, Nat.reduceLeDiff, Int.reduceToNat, reduceCtorEq, f67]
      · simp -dsimp (maxSteps := 2000000) (disch := first | omega | (simp only [qZ] <;> omega) | fail) only [push_cast, ↓qP, ↓reduceIte, Nat.reduceEqDiff, Nat.reduceAdd, Nat.reduceMul, Nat.reduceSub, Nat.reduceLeDiff, Int.reduceToNat, reduceCtorEq, hwr]
  · have hk' : k = s.length := by have : ¬ k < s.length := by simpa using h4
                                  omega
    subst hk'
    repeat (first | refine qS ?_ | refine qB ?_ | refine qT rfl ?_ | refine qF rfl ?_ | ((first | refine qR rfl ?_ | refine qK ?_ | refine qE ?_ | refine qW ?_ | refine qM ?_); try simp -dsimp (maxSteps := 2000000) (disch := first | omega | (simp only [qZ] <;> omega) | fail) only [push_cast, ↓qP, ↓reduceIte, Nat.reduceEqDiff, Nat.reduceAdd, Nat.reduceMul, Nat.reduceSub, Nat.reduceLeDiff, Int.reduceToNat, reduceCtorEq, f0, f1, f2, f12, f13, f67, f68, h4]) | (refine qA ?_ ?_; (first | omega | (simp only [qL]; omega) | (simp only [qD] at *; omega))))
    refine V_append (m := 1) _ _ _ rfl mk_54 rfl (hown.alloc _) rfl [.string (B ((s.drop st).take (s.length - st)))] ?r rfl (by omega) (by omega) ?k
    case r => simp -dsimp (maxSteps := 2000000) (disch := first | omega | (simp only [qZ] <;> omega) | fail) only [push_cast, ↓qP, ↓reduceIte, Nat.reduceEqDiff, Nat.reduceAdd, Nat.reduceMul, Nat.reduceSub, Nat.reduceLeDiff, Int.reduceToNat, reduceCtorEq]
    case k =>
      intro A' cap' w3 hown' hgrow hat
      refine Sm.out ?_
      repeat (first | refine qS ?_ | refine qB ?_ | refine qT rfl ?_ | refine qF rfl ?_ | ((first | refine qR rfl ?_ | refine qK ?_ | refine qE ?_ | refine qW ?_ | refine qM ?_); try simp -dsimp (maxSteps := 2000000) (disch := first | omega | (simp only [qZ] <;> omega) | fail) only [push_cast, ↓qP, ↓reduceIte, Nat.reduceEqDiff, Nat.reduceAdd, Nat.reduceMul, Nat.reduceSub, Nat.reduceLeDiff, Int.reduceToNat, reduceCtorEq]) | (refine qA ?_ ?_; (first | omega | (simp only [qL]; omega) | (simp only [qD] at *; omega))))
      rw [List.drop_length] at hsp
      have hfin : sp p [] s = xs ++ [(s.drop st).take (s.length - st)] := by rw [← hsp]; rfl
      rw [hfin]
      refine Ret.mk ⟨A', cap', by rw [List.length_append]; rfl, by rw [St_append, List.length_append]; exact hown', (hkp.alloc _).grown hgrow (fun g hg hlt => by have := hnew g hg; omega)⟩
end Go.Proofs.Ytddichibegppjaa

/- The reference's split by a byte. -/
namespace Go.Proofs.Ytddichibegppjaa
open Go Go.VC

/-- The reference's Split answers these fields. -/
def Splits3 (w : World) (l sep : List UInt8) (b : Bool) (xs : List (List UInt8)) : Prop :=
  Calls Try.prog 35 #[.string (B l), .string (B sep), .bool b] w fun e w' => ∃ A c, e = .returned (.tuple #[.slice A xs.length c, .bool true]) ∧ Own w' 9 1 A xs.length c (St xs) ∧ Kp0 w w'

theorem split3_byte (s : List UInt8) (c0 : UInt8) (b : Bool) (w : World) (hs : s.length ≤ 1000000) (hc : c0 ≠ 32) : Splits3 w s [c0] b (bysep (cutp c0 b) s) := by
  unfold Splits3
  refine enter (n := 173) (args := [.string (B s), .string (B [c0]), .bool b]) Try.func35 rfl rfl rfl (by simp) ?_
  rcases Bool.eq_false_or_eq_true (s == []) with h1 | h1
  · have hs0 : s = [] := by simpa using h1
    repeat (first | refine qS ?_ | refine qB ?_ | refine qT rfl ?_ | refine qF rfl ?_ | ((first | refine qR rfl ?_ | refine qK ?_ | refine qE ?_ | refine qW ?_ | refine qM ?_); try simp -dsimp (maxSteps := 2000000) (disch := first | omega | (simp only [qZ] <;> omega) | fail) only [push_cast, ↓qP, ↓reduceIte, Nat.reduceEqDiff, Nat.reduceAdd, Nat.reduceMul, Nat.reduceSub, Nat.reduceLeDiff, Int.reduceToNat, reduceCtorEq, h1]) | (refine qA ?_ ?_; (first | omega | (simp only [qL]; omega) | (simp only [qD] at *; omega))))
    subst hs0
    exact Ret.mk ⟨none, 0, rfl, Own.nil _ _ _, Kp.refl _ _⟩
  have hs0 : s ≠ [] := by simpa using h1
  have h2 : ([c0] == [32]) = false := by simpa using hc
  have h3 : ([c0] == []) = false := rfl
  have hbs : bysep (cutp c0 b) s = sp (cutp c0 b) [] s := if_neg hs0
  rw [hbs]
  generalize hp : cutp c0 b = p
  repeat (first | refine qS ?_ | refine qB ?_ | refine qT rfl ?_ | refine qF rfl ?_ | ((first | refine qR rfl ?_ | refine qK ?_ | refine qE ?_ | refine qW ?_ | refine qM ?_); try simp -dsimp (maxSteps := 2000000) (disch := first | omega | (simp only [qZ] <;> omega) | fail) only [push_cast, ↓qP, ↓reduceIte, Nat.reduceEqDiff, Nat.reduceAdd, Nat.reduceMul, Nat.reduceSub, Nat.reduceLeDiff, Int.reduceToNat, reduceCtorEq, h1, h2, h3]) | (refine qA ?_ ?_; (first | omega | (simp only [qL]; omega) | (simp only [qD] at *; omega))))
  refine Wp.loop (α := Nat) (fun k F w2 => ∃ A cap xs, ∃ st : Nat, F 0 = .string (B s) ∧ F 1 = .string (B [c0]) ∧ F 2 = .bool b ∧ F 8 = .slice A xs.length cap ∧ F 20 = .int .i64 st ∧ F 21 = .int .i64 k ∧ k ≤ s.length ∧ st ≤ k ∧ xs.length ≤ k ∧
      Own w2 9 1 A xs.length cap (St xs) ∧ (∀ g, bk A = some g → w.heap.size ≤ g) ∧ Kp0 w w2 ∧ xs ++ sp p ((s.drop st).take (k - st)) (s.drop k) = sp p [] s) (fun k => s.length - k) 0
    ⟨none, 0, [], 0, ?_, ?_, ?_, ?_, ?_, ?_, by omega, by omega, by simp, Own.nil _ _ _, by simp [bk], Kp.refl _ _, by simp⟩ ?_
  · simp -dsimp (maxSteps := 2000000) (disch := first | omega | (simp only [qZ] <;> omega) | fail) only [push_cast, ↓qP, ↓reduceIte, Nat.reduceEqDiff, Nat.reduceAdd, Nat.reduceMul, Nat.reduceSub, Nat.reduceLeDiff, Int.reduceToNat, reduceCtorEq]
  · simp -dsimp (maxSteps := 2000000) (disch := first | omega | (simp only [qZ] <;> omega) | fail) only [push_cast, ↓qP, ↓reduceIte, Nat.reduceEqDiff, Nat.reduceAdd, Nat.reduceMul, Nat.reduceSub, Nat.reduceLeDiff, Int.reduceToNat, reduceCtorEq]
  · simp -dsimp (maxSteps := 2000000) (disch := first | omega | (simp only [qZ] <;> omega) | fail) only [push_cast, ↓qP, ↓reduceIte, Nat.reduceEqDiff, Nat.reduceAdd, Nat.reduceMul, Nat.reduceSub, Nat.reduceLeDiff, Int.reduceToNat, reduceCtorEq]
  · simp -dsimp (maxSteps := 2000000) (disch := first | omega | (simp only [qZ] <;> omega) | fail) only [push_cast, ↓qP, ↓reduceIte, Nat.reduceEqDiff, Nat.reduceAdd, Nat.reduceMul, Nat.reduceSub, Nat.reduceLeDiff, Int.reduceToNat, reduceCtorEq]
  · simp -dsimp (maxSteps := 2000000) (disch := first | omega | (simp only [qZ] <;> omega) | fail) only [push_cast, ↓qP, ↓reduceIte, Nat.reduceEqDiff, Nat.reduceAdd, Nat.reduceMul, Nat.reduceSub, Nat.reduceLeDiff, Int.reduceToNat, reduceCtorEq]
  · simp -dsimp (maxSteps := 2000000) (disch := first | omega | (simp only [qZ] <;> omega) | fail) only [push_cast, ↓qP, ↓reduceIte, Nat.reduceEqDiff, Nat.reduceAdd, Nat.reduceMul, Nat.reduceSub, Nat.reduceLeDiff, Int.reduceToNat, reduceCtorEq]
  rintro k F w2 ⟨A, cap, xs, st, f0, f1, f2, f12, f13, f68, hk, hst, hxk, hown, hnew, hkp, hsp⟩
  rcases Bool.eq_false_or_eq_true (decide ((k : Int) < (s.length : Int))) with h4 | h4
  · have hk' : k < s.length := by simpa using h4
    have hbt : bt (B s) k = (s[k].toNat : Int) := by rw [bt_B]; simp [hk']
    have hb0 : bt (B [c0]) 0 = (c0.toNat : Int) := by rw [bt_B]; rfl
    have h10 : ((s[k].toNat : Int) == 10) = (s[k] == 10) := u8_eq s[k] 10
    have hwr : IntKind.i64.wrap ((k : Int) + 1) = ((k + 1 : Nat) : Int) := by rw [wrap_id (by omega)]; omega
    rw [sp_step hk' hst] at hsp
    have hpk : p s[k] = (s[k] == c0 || (b && s[k] == 10)) := by rw [← hp]; rfl
    repeat (first | refine qS ?_ | refine qB ?_ | refine qT rfl ?_ | refine qF rfl ?_ | ((first | refine qR rfl ?_ | refine qK ?_ | refine qE ?_ | refine qW ?_ | refine qM ?_); try simp -dsimp (maxSteps := 2000000) (disch := first | omega | (simp only [qZ] <;> omega) | fail) only [push_cast, ↓qP, ↓reduceIte, Nat.reduceEqDiff, Nat.reduceAdd, Nat.reduceMul, Nat.reduceSub, Nat.reduceLeDiff, Int.reduceToNat, reduceCtorEq, f0, f1, f2, f12, f13, f68, h4]) | (refine qA ?_ ?_; (first | omega | (simp only [qL]; omega) | (simp only [qD] at *; omega))))
    rcases Bool.eq_false_or_eq_true (s[k] == c0) with e1 | e1
    · have hpv : p s[k] = true := by rw [hpk]; simp [e1]
      rw [hpv, if_pos rfl] at hsp
      refine Wp.draw [0, 0, 3, 0, 8, 31, 63, 127, 255, 511, 511, 2047, 4095, 8191, 16383] [] (.op 0 false false [] <| .op 1 false false [] <| .op 2 false false [] <| .op 3 false false [] <| .op 4 false false [] <| .op 5 false false [] <| .op 6 false false [] <| .op 7 false false [] <| .op 8 false false [] <| .op 9 false false [] <| .op 10 false false [] <| .op 11 false false [] <| .op 12 false false [] <| .op 13 false false [] <| .op 14 false false [] <| .nil) mixed (by kernel_rfl) ?_
      simp -dsimp (maxSteps := 2000000) (disch := first | omega | (simp only [qZ] <;> omega) | fail) only [push_cast, ↓qP, ↓reduceIte, Nat.reduceEqDiff, Nat.reduceAdd, Nat.reduceMul, Nat.reduceSub, Nat.reduceLeDiff, Int.reduceToNat, reduceCtorEq, f0, f1, f2, f12, f13, f68, hbt, hb0, u8_eq, h10, e1]
      refine ⟨by omega, by simp, ?_⟩
      refine Sm.out ?_
      repeat (first | refine qS ?_ | refine qB ?_ | refine qT rfl ?_ | refine qF rfl ?_ | ((first | refine qR rfl ?_ | refine qK ?_ | refine qE ?_ | refine qW ?_ | refine qM ?_); try simp -dsimp (maxSteps := 2000000) (disch := first | omega | (simp only [qZ] <;> omega) | fail) only [push_cast, ↓qP, ↓reduceIte, Nat.reduceEqDiff, Nat.reduceAdd, Nat.reduceMul, Nat.reduceSub, Nat.reduceLeDiff, Int.reduceToNat, reduceCtorEq, e1, f0, f1, f2, f12, f13, f68, hwr]) | (refine qA ?_ ?_; (first | omega | (simp only [qL]; omega) | (simp only [qD] at *; omega))))
      refine V_append (m := 1) _ _ _ rfl mk_54 rfl (hown.drew.alloc _) rfl [.string (B ((s.drop st).take (k - st)))] ?r rfl (by omega) (by omega) ?k
      case r => simp -dsimp (maxSteps := 2000000) (disch := first | omega | (simp only [qZ] <;> omega) | fail) only [push_cast, ↓qP, ↓reduceIte, Nat.reduceEqDiff, Nat.reduceAdd, Nat.reduceMul, Nat.reduceSub, Nat.reduceLeDiff, Int.reduceToNat, reduceCtorEq]
      case k =>
        intro A' cap' w3 hown' hgrow hat
        refine Sm.out ?_
        repeat (first | refine qS ?_ | refine qB ?_ | refine qT rfl ?_ | refine qF rfl ?_ | ((first | refine qR rfl ?_ | refine qK ?_ | refine qE ?_ | refine qW ?_ | refine qM ?_); try simp -dsimp (maxSteps := 2000000) (disch := first | omega | (simp only [qZ] <;> omega) | fail) only [push_cast, ↓qP, ↓reduceIte, Nat.reduceEqDiff, Nat.reduceAdd, Nat.reduceMul, Nat.reduceSub, Nat.reduceLeDiff, Int.reduceToNat, reduceCtorEq, f0, f1, f2, f12, f13, f68, hwr]) | (refine qA ?_ ?_; (first | omega | (simp only [qL]; omega) | (simp only [qD] at *; omega))))
        refine Again.mk (k + 1) ⟨A', cap', xs ++ [(s.drop st).take (k - st)], k + 1, ?_, ?_, ?_, ?_, ?_, ?_, by omega, by omega, by simp; omega, ?_, ?_, ((hkp.drew).alloc _).grown hgrow (fun g hg hlt => by have := hnew g hg; omega), ?_⟩ (by omega)
        · simp -dsimp (maxSteps := 2000000) (disch := first | omega | (simp only [qZ] <;> omega) | fail) only [push_cast, ↓qP, ↓reduceIte, Nat.reduceEqDiff, Nat.reduceAdd, Nat.reduceMul, Nat.reduceSub, Nat.reduceLeDiff, Int.reduceToNat, reduceCtorEq, f0]
        · simp -dsimp (maxSteps := 2000000) (disch := first | omega | (simp only [qZ] <;> omega) | fail) only [push_cast, ↓qP, ↓reduceIte, Nat.reduceEqDiff, Nat.reduceAdd, Nat.reduceMul, Nat.reduceSub, Nat.reduceLeDiff, Int.reduceToNat, reduceCtorEq, f1]
        · simp -dsimp (maxSteps := 2000000) (disch := first | omega | (simp only [qZ] <;> omega) | fail) only [push_cast, ↓qP, ↓reduceIte, Nat.reduceEqDiff, Nat.reduceAdd, Nat.reduceMul, Nat.reduceSub, Nat.reduceLeDiff, Int.reduceToNat, reduceCtorEq, f2]
        · simp -dsimp (maxSteps := 2000000) (disch := first | omega | (simp only [qZ] <;> omega) | fail) only [push_cast, ↓qP, ↓reduceIte, Nat.reduceEqDiff, Nat.reduceAdd, Nat.reduceMul, Nat.reduceSub, Nat.reduceLeDiff, Int.reduceToNat, reduceCtorEq, List.length_append]
        · simp -dsimp (maxSteps := 2000000) (disch := first | omega | (simp only [qZ] <;> omega) | fail) only [push_cast, ↓qP, ↓reduceIte, Nat.reduceEqDiff, Nat.reduceAdd, Nat.reduceMul, Nat.reduceSub, Nat.reduceLeDiff, Int.reduceToNat, reduceCtorEq, hwr]
        · simp -dsimp (maxSteps := 2000000) (disch := first | omega | (simp only [qZ] <;> omega) | fail) only [push_cast, ↓qP, ↓reduceIte, Nat.reduceEqDiff, Nat.reduceAdd, Nat.reduceMul, Nat.reduceSub, Nat.reduceLeDiff, Int.reduceToNat, reduceCtorEq, hwr]
        · rw [St_append, List.length_append]; exact hown'
        · intro g hg
          rcases hat with h | h
          · exact hnew g (h ▸ hg)
          · rw [h] at hg; simp at hg; subst hg; have := hkp.size; simp; omega
        · rw [← hsp]; simp
    rcases Bool.eq_false_or_eq_true b with e2 | e2
    · subst e2
      rcases Bool.eq_false_or_eq_true (s[k] == 10) with e3 | e3
      · have hpv : p s[k] = true := by rw [hpk]; simp [e1, e3]
        rw [hpv, if_pos rfl] at hsp
        refine Wp.draw [0, 0, 3, 0, 8, 31, 63, 127, 255, 511, 511, 2047, 4095, 8191, 16383] [] (.op 0 false false [] <| .op 1 false false [] <| .op 2 false false [] <| .op 3 false false [] <| .op 4 false false [] <| .op 5 false false [] <| .op 6 false false [] <| .op 7 false false [] <| .op 8 false false [] <| .op 9 false false [] <| .op 10 false false [] <| .op 11 false false [] <| .op 12 false false [] <| .op 13 false false [] <| .op 14 false false [] <| .nil) mixed (by kernel_rfl) ?_
        simp -dsimp (maxSteps := 2000000) (disch := first | omega | (simp only [qZ] <;> omega) | fail) only [push_cast, ↓qP, ↓reduceIte, Nat.reduceEqDiff, Nat.reduceAdd, Nat.reduceMul, Nat.reduceSub, Nat.reduceLeDiff, Int.reduceToNat, reduceCtorEq, f0, f1, f2, f12, f13, f68, hbt, hb0, u8_eq, h10, e1, e3]
        refine ⟨by omega, by simp, ?_⟩
        refine Sm.out ?_
        repeat (first | refine qS ?_ | refine qB ?_ | refine qT rfl ?_ | refine qF rfl ?_ | ((first | refine qR rfl ?_ | refine qK ?_ | refine qE ?_ | refine qW ?_ | refine qM ?_); try simp -dsimp (maxSteps := 2000000) (disch := first | omega | (simp only [qZ] <;> omega) | fail) only [push_cast, ↓qP, ↓reduceIte, Nat.reduceEqDiff, Nat.reduceAdd, Nat.reduceMul, Nat.reduceSub, Nat.reduceLeDiff, Int.reduceToNat, reduceCtorEq, e1, e3, f0, f1, f2, f12, f13, f68, hwr]) | (refine qA ?_ ?_; (first | omega | (simp only [qL]; omega) | (simp only [qD] at *; omega))))
        refine V_append (m := 1) _ _ _ rfl mk_54 rfl (hown.drew.alloc _) rfl [.string (B ((s.drop st).take (k - st)))] ?r rfl (by omega) (by omega) ?k
        case r => simp -dsimp (maxSteps := 2000000) (disch := first | omega | (simp only [qZ] <;> omega) | fail) only [push_cast, ↓qP, ↓reduceIte, Nat.reduceEqDiff, Nat.reduceAdd, Nat.reduceMul, Nat.reduceSub, Nat.reduceLeDiff, Int.reduceToNat, reduceCtorEq]
        case k =>
          intro A' cap' w3 hown' hgrow hat
          refine Sm.out ?_
          repeat (first | refine qS ?_ | refine qB ?_ | refine qT rfl ?_ | refine qF rfl ?_ | ((first | refine qR rfl ?_ | refine qK ?_ | refine qE ?_ | refine qW ?_ | refine qM ?_); try simp -dsimp (maxSteps := 2000000) (disch := first | omega | (simp only [qZ] <;> omega) | fail) only [push_cast, ↓qP, ↓reduceIte, Nat.reduceEqDiff, Nat.reduceAdd, Nat.reduceMul, Nat.reduceSub, Nat.reduceLeDiff, Int.reduceToNat, reduceCtorEq, f0, f1, f2, f12, f13, f68, hwr]) | (refine qA ?_ ?_; (first | omega | (simp only [qL]; omega) | (simp only [qD] at *; omega))))
          refine Again.mk (k + 1) ⟨A', cap', xs ++ [(s.drop st).take (k - st)], k + 1, ?_, ?_, ?_, ?_, ?_, ?_, by omega, by omega, by simp; omega, ?_, ?_, ((hkp.drew).alloc _).grown hgrow (fun g hg hlt => by have := hnew g hg; omega), ?_⟩ (by omega)
          · simp -dsimp (maxSteps := 2000000) (disch := first | omega | (simp only [qZ] <;> omega) | fail) only [push_cast, ↓qP, ↓reduceIte, Nat.reduceEqDiff, Nat.reduceAdd, Nat.reduceMul, Nat.reduceSub, Nat.reduceLeDiff, Int.reduceToNat, reduceCtorEq, f0]
          · simp -dsimp (maxSteps := 2000000) (disch := first | omega | (simp only [qZ] <;> omega) | fail) only [push_cast, ↓qP, ↓reduceIte, Nat.reduceEqDiff, Nat.reduceAdd, Nat.reduceMul, Nat.reduceSub, Nat.reduceLeDiff, Int.reduceToNat, reduceCtorEq, f1]
          · simp -dsimp (maxSteps := 2000000) (disch := first | omega | (simp only [qZ] <;> omega) | fail) only [push_cast, ↓qP, ↓reduceIte, Nat.reduceEqDiff, Nat.reduceAdd, Nat.reduceMul, Nat.reduceSub, Nat.reduceLeDiff, Int.reduceToNat, reduceCtorEq, f2]
          · simp -dsimp (maxSteps := 2000000) (disch := first | omega | (simp only [qZ] <;> omega) | fail) only [push_cast, ↓qP, ↓reduceIte, Nat.reduceEqDiff, Nat.reduceAdd, Nat.reduceMul, Nat.reduceSub, Nat.reduceLeDiff, Int.reduceToNat, reduceCtorEq, List.length_append]
          · simp -dsimp (maxSteps := 2000000) (disch := first | omega | (simp only [qZ] <;> omega) | fail) only [push_cast, ↓qP, ↓reduceIte, Nat.reduceEqDiff, Nat.reduceAdd, Nat.reduceMul, Nat.reduceSub, Nat.reduceLeDiff, Int.reduceToNat, reduceCtorEq, hwr]
          · simp -dsimp (maxSteps := 2000000) (disch := first | omega | (simp only [qZ] <;> omega) | fail) only [push_cast, ↓qP, ↓reduceIte, Nat.reduceEqDiff, Nat.reduceAdd, Nat.reduceMul, Nat.reduceSub, Nat.reduceLeDiff, Int.reduceToNat, reduceCtorEq, hwr]
          · rw [St_append, List.length_append]; exact hown'
          · intro g hg
            rcases hat with h | h
            · exact hnew g (h ▸ hg)
            · rw [h] at hg; simp at hg; subst hg; have := hkp.size; simp; omega
          · rw [← hsp]; simp
      · have hpv : p s[k] = false := by rw [hpk]; simp [e1, e3]
        rw [hpv, if_neg (by simp)] at hsp
        refine Wp.draw [0, 0, 3, 0, 8, 31, 63, 127, 255, 511, 511, 2047, 4095, 8191, 16383] [] (.op 0 false false [] <| .op 1 false false [] <| .op 2 false false [] <| .op 3 false false [] <| .op 4 false false [] <| .op 5 false false [] <| .op 6 false false [] <| .op 7 false false [] <| .op 8 false false [] <| .op 9 false false [] <| .op 10 false false [] <| .op 11 false false [] <| .op 12 false false [] <| .op 13 false false [] <| .op 14 false false [] <| .nil) mixed (by kernel_rfl) ?_
        simp -dsimp (maxSteps := 2000000) (disch := first | omega | (simp only [qZ] <;> omega) | fail) only [push_cast, ↓qP, ↓reduceIte, Nat.reduceEqDiff, Nat.reduceAdd, Nat.reduceMul, Nat.reduceSub, Nat.reduceLeDiff, Int.reduceToNat, reduceCtorEq, f0, f1, f2, f12, f13, f68, hbt, hb0, u8_eq, h10, e1, e3]
        refine ⟨by omega, by simp, ?_⟩
        refine Sm.out ?_
        repeat (first | refine qS ?_ | refine qB ?_ | refine qT rfl ?_ | refine qF rfl ?_ | ((first | refine qR rfl ?_ | refine qK ?_ | refine qE ?_ | refine qW ?_ | refine qM ?_); try simp -dsimp (maxSteps := 2000000) (disch := first | omega | (simp only [qZ] <;> omega) | fail) only [push_cast, ↓qP, ↓reduceIte, Nat.reduceEqDiff, Nat.reduceAdd, Nat.reduceMul, Nat.reduceSub, Nat.reduceLeDiff, Int.reduceToNat, reduceCtorEq, e1, e3, f0, f1, f2, f12, f13, f68, hwr]) | (refine qA ?_ ?_; (first | omega | (simp only [qL]; omega) | (simp only [qD] at *; omega))))
        refine Again.mk (k + 1) ⟨A, cap, xs, st, ?_, ?_, ?_, ?_, ?_, ?_, by omega, by omega, by omega, hown.drew, hnew, hkp.drew, hsp⟩ (by omega)
        · simp -dsimp (maxSteps := 2000000) (disch := first | omega | (simp only [qZ] <;> omega) | fail) only [push_cast, ↓qP, ↓reduceIte, Nat.reduceEqDiff, Nat.reduceAdd, Nat.reduceMul, Nat.reduceSub, Nat.reduceLeDiff, Int.reduceToNat, reduceCtorEq, f0]
        · simp -dsimp (maxSteps := 2000000) (disch := first | omega | (simp only [qZ] <;> omega) | fail) only [push_cast, ↓qP, ↓reduceIte, Nat.reduceEqDiff, Nat.reduceAdd, Nat.reduceMul, Nat.reduceSub, Nat.reduceLeDiff, Int.reduceToNat, reduceCtorEq, f1]
        · simp -dsimp (maxSteps := 2000000) (disch := first | omega | (simp only [qZ] <;> omega) | fail) only [push_cast, ↓qP, ↓reduceIte, Nat.reduceEqDiff, Nat.reduceAdd, Nat.reduceMul, Nat.reduceSub, Nat.reduceLeDiff, Int.reduceToNat, reduceCtorEq, f2]
        · simp -dsimp (maxSteps := 2000000) (disch := first | omega | (simp only [qZ] <;> omega) | fail) only [push_cast, ↓qP, ↓reduceIte, Nat.reduceEqDiff, Nat.reduceAdd, Nat.reduceMul, Nat.reduceSub, Nat.reduceLeDiff, Int.reduceToNat, reduceCtorEq, f12]
        · simp -dsimp (maxSteps := 2000000) (disch := first | omega | (simp only [qZ] <;> omega) | fail) only [push_cast, ↓qP, ↓reduceIte, Nat.reduceEqDiff, Nat.reduceAdd, Nat.reduceMul, Nat.reduceSub, Nat.reduceLeDiff, Int.reduceToNat, reduceCtorEq, f13]
        · simp -dsimp (maxSteps := 2000000) (disch := first | omega | (simp only [qZ] <;> omega) | fail) only [push_cast, ↓qP, ↓reduceIte, Nat.reduceEqDiff, Nat.reduceAdd, Nat.reduceMul, Nat.reduceSub, Nat.reduceLeDiff, Int.reduceToNat, reduceCtorEq, hwr]
    · subst e2
      have hpv : p s[k] = false := by rw [hpk]; simp [e1]
      rw [hpv, if_neg (by simp)] at hsp
      refine Wp.draw [0, 0, 3, 0, 8, 31, 63, 127, 255, 511, 511, 2047, 4095, 8191, 16383] [] (.op 0 false false [] <| .op 1 false false [] <| .op 2 false false [] <| .op 3 false false [] <| .op 4 false false [] <| .op 5 false false [] <| .op 6 false false [] <| .op 7 false false [] <| .op 8 false false [] <| .op 9 false false [] <| .op 10 false false [] <| .op 11 false false [] <| .op 12 false false [] <| .op 13 false false [] <| .op 14 false false [] <| .nil) mixed (by kernel_rfl) ?_
      simp -dsimp (maxSteps := 2000000) (disch := first | omega | (simp only [qZ] <;> omega) | fail) only [push_cast, ↓qP, ↓reduceIte, Nat.reduceEqDiff, Nat.reduceAdd, Nat.reduceMul, Nat.reduceSub, Nat.reduceLeDiff, Int.reduceToNat, reduceCtorEq, f0, f1, f2, f12, f13, f68, hbt, hb0, u8_eq, h10, e1]
      refine ⟨by omega, by simp, ?_⟩
      refine Sm.out ?_
      repeat (first | refine qS ?_ | refine qB ?_ | refine qT rfl ?_ | refine qF rfl ?_ | ((first | refine qR rfl ?_ | refine qK ?_ | refine qE ?_ | refine qW ?_ | refine qM ?_); try simp -dsimp (maxSteps := 2000000) (disch := first | omega | (simp only [qZ] <;> omega) | fail) only [push_cast, ↓qP, ↓reduceIte, Nat.reduceEqDiff, Nat.reduceAdd, Nat.reduceMul, Nat.reduceSub, Nat.reduceLeDiff, Int.reduceToNat, reduceCtorEq, e1, f0, f1, f2, f12, f13, f68, hwr]) | (refine qA ?_ ?_; (first | omega | (simp only [qL]; omega) | (simp only [qD] at *; omega))))
      refine Again.mk (k + 1) ⟨A, cap, xs, st, ?_, ?_, ?_, ?_, ?_, ?_, by omega, by omega, by omega, hown.drew, hnew, hkp.drew, hsp⟩ (by omega)
      · simp -dsimp (maxSteps := 2000000) (disch := first | omega | (simp only [qZ] <;> omega) | fail) only [push_cast, ↓qP, ↓reduceIte, Nat.reduceEqDiff, Nat.reduceAdd, Nat.reduceMul, Nat.reduceSub, Nat.reduceLeDiff, Int.reduceToNat, reduceCtorEq, f0]
      · simp -dsimp (maxSteps := 2000000) (disch := first | omega | (simp only [qZ] <;> omega) | fail) only [push_cast, ↓qP, ↓reduceIte, Nat.reduceEqDiff, Nat.reduceAdd, Nat.reduceMul, Nat.reduceSub, Nat.reduceLeDiff, Int.reduceToNat, reduceCtorEq, f1]
      · simp -dsimp (maxSteps := 2000000) (disch := first | omega | (simp only [qZ] <;> omega) | fail) only [push_cast, ↓qP, ↓reduceIte, Nat.reduceEqDiff, Nat.reduceAdd, Nat.reduceMul, Nat.reduceSub, Nat.reduceLeDiff, Int.reduceToNat, reduceCtorEq, f2]
      · simp -dsimp (maxSteps := 2000000) (disch := first | omega | (simp only [qZ] <;> omega) | fail) only [push_cast, ↓qP, ↓reduceIte, Nat.reduceEqDiff, Nat.reduceAdd, Nat.reduceMul, Nat.reduceSub, Nat.reduceLeDiff, Int.reduceToNat, reduceCtorEq, f12]
      · simp -dsimp (maxSteps := 2000000) (disch := first | omega | (simp only [qZ] <;> omega) | fail) only [push_cast, ↓qP, ↓reduceIte, Nat.reduceEqDiff, Nat.reduceAdd, Nat.reduceMul, Nat.reduceSub, Nat.reduceLeDiff, Int.reduceToNat, reduceCtorEq, f13]
      · simp -dsimp (maxSteps := 2000000) (disch := first | omega | (simp only [qZ] <;> omega) | fail) only [push_cast, ↓qP, ↓reduceIte, Nat.reduceEqDiff, Nat.reduceAdd, Nat.reduceMul, Nat.reduceSub, Nat.reduceLeDiff, Int.reduceToNat, reduceCtorEq, hwr]
  · have hk' : k = s.length := by have : ¬ k < s.length := by simpa using h4
                                  omega
    subst hk'
    repeat (first | refine qS ?_ | refine qB ?_ | refine qT rfl ?_ | refine qF rfl ?_ | ((first | refine qR rfl ?_ | refine qK ?_ | refine qE ?_ | refine qW ?_ | refine qM ?_); try simp -dsimp (maxSteps := 2000000) (disch := first | omega | (simp only [qZ] <;> omega) | fail) only [push_cast, ↓qP, ↓reduceIte, Nat.reduceEqDiff, Nat.reduceAdd, Nat.reduceMul, Nat.reduceSub, Nat.reduceLeDiff, Int.reduceToNat, reduceCtorEq, f0, f1, f2, f12, f13, f68, h4]) | (refine qA ?_ ?_; (first | omega | (simp only [qL]; omega) | (simp only [qD] at *; omega))))
    refine V_append (m := 1) _ _ _ rfl mk_54 rfl (hown.alloc _) rfl [.string (B ((s.drop st).take (s.length - st)))] ?r rfl (by omega) (by omega) ?k
    case r => simp -dsimp (maxSteps := 2000000) (disch := first | omega | (simp only [qZ] <;> omega) | fail) only [push_cast, ↓qP, ↓reduceIte, Nat.reduceEqDiff, Nat.reduceAdd, Nat.reduceMul, Nat.reduceSub, Nat.reduceLeDiff, Int.reduceToNat, reduceCtorEq]
    case k =>
      intro A' cap' w3 hown' hgrow hat
      refine Sm.out ?_
      repeat (first | refine qS ?_ | refine qB ?_ | refine qT rfl ?_ | refine qF rfl ?_ | ((first | refine qR rfl ?_ | refine qK ?_ | refine qE ?_ | refine qW ?_ | refine qM ?_); try simp -dsimp (maxSteps := 2000000) (disch := first | omega | (simp only [qZ] <;> omega) | fail) only [push_cast, ↓qP, ↓reduceIte, Nat.reduceEqDiff, Nat.reduceAdd, Nat.reduceMul, Nat.reduceSub, Nat.reduceLeDiff, Int.reduceToNat, reduceCtorEq]) | (refine qA ?_ ?_; (first | omega | (simp only [qL]; omega) | (simp only [qD] at *; omega))))
      rw [List.drop_length] at hsp
      have hfin : sp p [] s = xs ++ [(s.drop st).take (s.length - st)] := by rw [← hsp]; rfl
      rw [hfin]
      refine Ret.mk ⟨A', cap', by rw [List.length_append]; rfl, by rw [St_append, List.length_append]; exact hown', (hkp.alloc _).grown hgrow (fun g hg hlt => by have := hnew g hg; omega)⟩
end Go.Proofs.Ytddichibegppjaa

/- The reference's reader of expressions: small methods. -/
namespace Go.Proofs.Ytddichibegppjaa
open Go Go.VC

/-- A place in a text. -/
abbrev At3 (w : World) (a : Nat) (l : List UInt8) (s : S3) : Prop := Blk w a 82 [.string (B l), .int .i64 s.i, .int .i64 s.f, .int .i64 s.d]

section
variable {a : Nat} {l : List UInt8} {s : S3} {w : World}

theorem fail3 (h : At3 w a l s) (k : Int) :
    Calls Try.prog 50 #[.pointer (some ⟨a, 0, none⟩), .int .i64 k] w fun e w' => e = .returned (.tuple #[]) ∧ At3 w' a l (s.fail k) ∧ Kp (· = a) w w' := by
  have hlt := h.lt
  refine enter (n := 13) (args := [.pointer (some ⟨a, 0, none⟩), .int .i64 k]) Try.func50 rfl rfl rfl (by simp) ?_
  rcases Bool.eq_false_or_eq_true (s.f == 0) with hb | hb
  · have e : s.fail k = { s with f := k } := by simp at hb; simp [S3.fail, hb]
    repeat (first | refine qS ?_ | refine qB ?_ | refine qT rfl ?_ | refine qF rfl ?_ | ((first | refine qR rfl ?_ | refine qK ?_ | refine qE ?_ | refine qW ?_ | refine qM ?_); try simp -dsimp (maxSteps := 2000000) (disch := first | omega | (simp only [qZ] <;> omega) | fail) only [push_cast, ↓qP, ↓reduceIte, seval, h.rdc, h.fz, hb]) | (refine qA ?_ ?_; (first | omega | (simp only [qL]; omega) | (simp only [qD] at *; omega))))
    rw [e]
    exact Ret.mk ⟨rfl, h.set 2 _, (Kp.refl (· = a) w).setCell (fun _ => rfl) _⟩
  · have e : s.fail k = s := by simp at hb; simp [S3.fail, hb]
    repeat (first | refine qS ?_ | refine qB ?_ | refine qT rfl ?_ | refine qF rfl ?_ | ((first | refine qR rfl ?_ | refine qK ?_ | refine qE ?_ | refine qW ?_ | refine qM ?_); try simp -dsimp (maxSteps := 2000000) (disch := first | omega | (simp only [qZ] <;> omega) | fail) only [push_cast, ↓qP, ↓reduceIte, seval, h.rdc, h.fz, hb]) | (refine qA ?_ ?_; (first | omega | (simp only [qL]; omega) | (simp only [qD] at *; omega))))
    rw [e]
    exact Ret.mk ⟨rfl, h, Kp.refl _ w⟩

theorem more3_any (h : At3 w a l s) : Calls Try.prog 71 #[.pointer (some ⟨a, 0, none⟩)] w fun e w' => e = .returned (.bool (more3 l s)) ∧ w.drew = w' := by
  have hlt := h.lt
  refine enter (n := 20) (args := [.pointer (some ⟨a, 0, none⟩)]) Try.func71 rfl rfl rfl (by simp) ?_
  repeat (first | refine qS ?_ | refine qB ?_ | refine qT rfl ?_ | refine qF rfl ?_ | ((first | refine qR rfl ?_ | refine qK ?_ | refine qE ?_ | refine qW ?_ | refine qM ?_); try simp -dsimp (maxSteps := 2000000) (disch := first | omega | (simp only [qZ] <;> omega) | fail) only [push_cast, ↓qP, ↓reduceIte, seval]) | (refine qA ?_ ?_; (first | omega | (simp only [qL]; omega) | (simp only [qD] at *; omega))))
  rcases Bool.eq_false_or_eq_true (s.f == 0) with hb | hb
  · refine Wp.draw [0, 1, 3, 7, 15, 31, 63, 127, 255, 511, 63, 1087, 3135, 7231, 15423, 32767, 65535, 131071] [] (.op 0 false false [] <| .op 1 false false [] <| .op 2 false false [] <| .op 3 false false [] <| .op 4 false false [] <| .op 5 false false [] <| .op 6 false false [] <| .op 7 false false [] <| .op 8 false false [] <| .op 9 false false [] <| .op 10 false false [] <| .op 11 false false [] <| .op 12 false false [] <| .op 13 false false [] <| .op 14 false false [] <| .op 15 false false [] <| .op 16 false false [] <| .op 17 false false [] <| .nil) mixed (by kernel_rfl) ?_
    simp -dsimp (maxSteps := 2000000) (disch := first | omega | (simp only [qZ] <;> omega) | fail) only [push_cast, ↓qP, ↓reduceIte, seval, h.rdc, hb]
    refine Sm.out ?_
    repeat (first | refine qS ?_ | refine qB ?_ | refine qT rfl ?_ | refine qF rfl ?_ | ((first | refine qR rfl ?_ | refine qK ?_ | refine qE ?_ | refine qW ?_ | refine qM ?_); try simp -dsimp (maxSteps := 2000000) (disch := first | omega | (simp only [qZ] <;> omega) | fail) only [push_cast, ↓qP, ↓reduceIte, seval]) | (refine qA ?_ ?_; (first | omega | (simp only [qL]; omega) | (simp only [qD] at *; omega))))
    refine Ret.mk ⟨?_, rfl⟩
    simp [more3, hb]
  · refine Wp.draw [0, 1, 3, 7, 15, 31, 63, 127, 255, 511, 63, 1087, 3135, 7231, 15423, 32767, 65535, 131071] [] (.op 0 false false [] <| .op 1 false false [] <| .op 2 false false [] <| .op 3 false false [] <| .op 4 false false [] <| .op 5 false false [] <| .op 6 false false [] <| .op 7 false false [] <| .op 8 false false [] <| .op 9 false false [] <| .op 10 false false [] <| .op 11 false false [] <| .op 12 false false [] <| .op 13 false false [] <| .op 14 false false [] <| .op 15 false false [] <| .op 16 false false [] <| .op 17 false false [] <| .nil) mixed (by kernel_rfl) ?_
    simp -dsimp (maxSteps := 2000000) (disch := first | omega | (simp only [qZ] <;> omega) | fail) only [push_cast, ↓qP, ↓reduceIte, seval, h.rdc, hb]
    refine Sm.out ?_
    repeat (first | refine qS ?_ | refine qB ?_ | refine qT rfl ?_ | refine qF rfl ?_ | ((first | refine qR rfl ?_ | refine qK ?_ | refine qE ?_ | refine qW ?_ | refine qM ?_); try simp -dsimp (maxSteps := 2000000) (disch := first | omega | (simp only [qZ] <;> omega) | fail) only [push_cast, ↓qP, ↓reduceIte, seval]) | (refine qA ?_ ?_; (first | omega | (simp only [qL]; omega) | (simp only [qD] at *; omega))))
    refine Ret.mk ⟨?_, rfl⟩
    simp [more3, hb]

theorem peek3 (h : At3 w a l s) (hi : s.i < l.length) : Calls Try.prog 72 #[.pointer (some ⟨a, 0, none⟩)] w fun e w' => e = .returned (.int .u8 ((byteAt l s.i).toNat : Int)) ∧ w.drew = w' := by
  have hlt := h.lt
  refine enter (n := 12) (args := [.pointer (some ⟨a, 0, none⟩)]) Try.func72 rfl rfl rfl (by simp) ?_
  repeat (first | refine qS ?_ | refine qB ?_ | refine qT rfl ?_ | refine qF rfl ?_ | ((first | refine qR rfl ?_ | refine qK ?_ | refine qE ?_ | refine qW ?_ | refine qM ?_); try simp -dsimp (maxSteps := 2000000) (disch := first | omega | (simp only [qZ] <;> omega) | fail) only [push_cast, ↓qP, ↓reduceIte, seval]) | (refine qA ?_ ?_; (first | omega | (simp only [qL]; omega) | (simp only [qD] at *; omega))))
  refine Wp.draw [0, 1, 3, 7, 0, 16, 48, 112, 255, 511] [] (.op 0 false false [] <| .op 1 false false [] <| .op 2 false false [] <| .op 3 false false [] <| .op 4 false false [] <| .op 5 false false [] <| .op 6 false false [] <| .op 7 false false [] <| .op 8 false false [] <| .op 9 false false [] <| .nil) mixed (by kernel_rfl) ?_
  simp -dsimp (maxSteps := 2000000) (disch := first | omega | (simp only [qZ] <;> omega) | fail) only [push_cast, ↓qP, ↓reduceIte, seval, h.rdc]
  refine ⟨by omega, ?_⟩
  refine Sm.out ?_
  repeat (first | refine qS ?_ | refine qB ?_ | refine qT rfl ?_ | refine qF rfl ?_ | ((first | refine qR rfl ?_ | refine qK ?_ | refine qE ?_ | refine qW ?_ | refine qM ?_); try simp -dsimp (maxSteps := 2000000) (disch := first | omega | (simp only [qZ] <;> omega) | fail) only [push_cast, ↓qP, ↓reduceIte, seval]) | (refine qA ?_ ?_; (first | omega | (simp only [qL]; omega) | (simp only [qD] at *; omega))))
  exact Ret.mk ⟨rfl, rfl⟩

/-- Is a byte of a class? -/
theorem in3_any (n : List UInt8) (c : Int) (w : World) : Calls Try.prog 108 #[.string (B n), .int .i64 c] w fun e w' => e = .returned (.tuple #[.bool (in3 n c).1, .bool (in3 n c).2]) ∧ w = w' := by
  refine enter (n := 135) (args := [.string (B n), .int .i64 c]) Try.func108 rfl rfl rfl (by simp) ?_
  refine Wp.seq (Wp.region rfl ?_)
  simp -dsimp (maxSteps := 2000000) (disch := first | omega | (simp only [qZ] <;> omega) | fail) only [push_cast, ↓qP, ↓reduceIte, seval]
  refine Wp.cut (fun F' w' => w = w' ∧ F' 0 = .string (B n) ∧ F' 1 = .int .i64 c ∧ F' 6 = .bool (up3 c)) ?_ ?_
  · repeat' (first | refine qS ?_ | refine qB ?_ | refine qT rfl ?_ | refine qF rfl ?_ | ((first | refine qR rfl ?_ | refine qK ?_ | refine qE ?_ | refine qW ?_ | refine qM ?_); try simp -dsimp (maxSteps := 2000000) (disch := first | omega | (simp only [qZ] <;> omega) | fail) only [push_cast, ↓qP, ↓reduceIte, seval]) | ((refine gsel.mk (fun hg => ?_) (fun hg => ?_)) <;> try simp -dsimp (maxSteps := 2000000) (disch := first | omega | (simp only [qZ] <;> omega) | fail) only [push_cast, ↓qP, ↓reduceIte, seval, *]) | refine Wp.cond rfl (fun hg => ?_) (fun hg => ?_) | (refine qA ?_ ?_; (first | omega | (simp only [qL]; omega) | (simp only [qD] at *; omega))))
    all_goals refine Mid.mk ⟨rfl, ?_, ?_, ?_⟩
    all_goals first | rfl | (simp [upd, up3, *]; done) | skip
  rintro F _ ⟨rfl, f0, f1, f6⟩
  refine Wp.cut (fun F' w' => w = w' ∧ F' 0 = .string (B n) ∧ F' 1 = .int .i64 c ∧ F' 6 = .bool (up3 c) ∧ F' 7 = .bool (low3 c)) ?_ ?_
  · repeat' (first | refine qS ?_ | refine qB ?_ | refine qT rfl ?_ | refine qF rfl ?_ | ((first | refine qR rfl ?_ | refine qK ?_ | refine qE ?_ | refine qW ?_ | refine qM ?_); try simp -dsimp (maxSteps := 2000000) (disch := first | omega | (simp only [qZ] <;> omega) | fail) only [push_cast, ↓qP, ↓reduceIte, seval, f0, f1, f6]) | ((refine gsel.mk (fun hg => ?_) (fun hg => ?_)) <;> try simp -dsimp (maxSteps := 2000000) (disch := first | omega | (simp only [qZ] <;> omega) | fail) only [push_cast, ↓qP, ↓reduceIte, seval, f0, f1, f6, *]) | refine Wp.cond rfl (fun hg => ?_) (fun hg => ?_) | (refine qA ?_ ?_; (first | omega | (simp only [qL]; omega) | (simp only [qD] at *; omega))))
    all_goals refine Mid.mk ⟨rfl, ?_, ?_, ?_, ?_⟩
    all_goals first | rfl | (simp [upd, low3, *]; done) | skip
  rintro F _ ⟨rfl, f0, f1, f6, f7⟩
  refine Wp.cut (fun F' w' => w = w' ∧ F' 0 = .string (B n) ∧ F' 1 = .int .i64 c ∧ F' 6 = .bool (up3 c) ∧ F' 7 = .bool (low3 c) ∧ F' 8 = .bool (dig3 c)) ?_ ?_
  · repeat' (first | refine qS ?_ | refine qB ?_ | refine qT rfl ?_ | refine qF rfl ?_ | ((first | refine qR rfl ?_ | refine qK ?_ | refine qE ?_ | refine qW ?_ | refine qM ?_); try simp -dsimp (maxSteps := 2000000) (disch := first | omega | (simp only [qZ] <;> omega) | fail) only [push_cast, ↓qP, ↓reduceIte, seval, f0, f1, f6, f7]) | ((refine gsel.mk (fun hg => ?_) (fun hg => ?_)) <;> try simp -dsimp (maxSteps := 2000000) (disch := first | omega | (simp only [qZ] <;> omega) | fail) only [push_cast, ↓qP, ↓reduceIte, seval, f0, f1, f6, f7, *]) | refine Wp.cond rfl (fun hg => ?_) (fun hg => ?_) | (refine qA ?_ ?_; (first | omega | (simp only [qL]; omega) | (simp only [qD] at *; omega))))
    all_goals refine Mid.mk ⟨rfl, ?_, ?_, ?_, ?_, ?_⟩
    all_goals first | rfl | (simp [upd, dig3, *]; done) | skip
  rintro F _ ⟨rfl, f0, f1, f6, f7, f8⟩
  generalize hu : up3 c = u at *
  generalize hlw : low3 c = lw at *
  generalize hdg : dig3 c = dg at *
  repeat' (first | refine qS ?_ | refine qB ?_ | refine qT rfl ?_ | refine qF rfl ?_ | ((first | refine qR rfl ?_ | refine qK ?_ | refine qE ?_ | refine qW ?_ | refine qM ?_); try simp -dsimp (maxSteps := 2000000) (disch := first | omega | (simp only [qZ] <;> omega) | fail) only [push_cast, ↓qP, ↓reduceIte, seval, f0, f1, f6, f7, f8]) | ((refine gsel.mk (fun hg => ?_) (fun hg => ?_)) <;> try simp -dsimp (maxSteps := 2000000) (disch := first | omega | (simp only [qZ] <;> omega) | fail) only [push_cast, ↓qP, ↓reduceIte, seval, f0, f1, f6, f7, f8, *]) | refine Wp.cond rfl (fun hg => ?_) (fun hg => ?_) | (refine qA ?_ ?_; (first | omega | (simp only [qL]; omega) | (simp only [qD] at *; omega))))
  all_goals refine Ret.mk ⟨?_, rfl⟩
  all_goals (simp_all [in3, nAlpha, nDigit, nAlnum, nUpper, nLower, nSpace, nBlank, nPunct, nPrint, nGraph, nCntrl, nXdigit] <;> (first | omega | (intros; omega) | (intros; exfalso; omega)))
end
end Go.Proofs.Ytddichibegppjaa

/- The reference's reader of expressions: escapes, numbers. -/
namespace Go.Proofs.Ytddichibegppjaa
open Go Go.VC

theorem digs_iff (a b c : UInt8) : digs a b c = true ↔ a.toNat ≤ c.toNat ∧ c.toNat ≤ b.toNat := by simp [digs]

theorem more3_iff (l : List UInt8) (s : S3) : more3 l s = true ↔ s.f = 0 ∧ s.i < l.length := by simp [more3]
theorem digs_ge {a b c : UInt8} (h : digs a b c = true) : decide ((c.toNat : Int) ≥ (a.toNat : Int)) = true ∧ decide ((c.toNat : Int) ≤ (b.toNat : Int)) = true := by
  rw [digs_iff] at h; simp; omega

theorem u8_eq' (a b : UInt8) : ((a.toNat : Int) == (b.toNat : Int)) = (a == b) := by
  rw [Bool.eq_iff_iff]; simp [← UInt8.toNat_inj]; omega

theorem oct_wrap (n : Nat) : IntKind.u8.wrap ((n : Int).tmod 256) = ((UInt8.ofNat (n % 256)).toNat : Int) := by
  have h : (n : Int).tmod 256 = ((n % 256 : Nat) : Int) := by rw [Int.tmod_eq_emod_of_nonneg (by omega)]; omega
  rw [h, wrap_u8 (by omega)]
  simp

theorem S3.ext' {s t : S3} (h1 : t.f = s.f) (h2 : t.d = s.d) : ({ s with i := t.i } : S3) = t := by cases t; cases s; simp_all

section
variable {a : Nat} {l : List UInt8} {s : S3} {w : World}

set_option maxHeartbeats 4000000 in
theorem escape3_any (h : At3 w a l s) (hl : l.length ≤ 1000000) (hi : s.i ≤ 2000000) :
    Calls Try.prog 95 #[.pointer (some ⟨a, 0, none⟩)] w fun e w' => e = .returned (by8 (escape3 l s).1) ∧ At3 w' a l (escape3 l s).2 ∧ Kp (· = a) w w' := by
  have hlt := h.lt
  refine enter (n := 113) (args := [.pointer (some ⟨a, 0, none⟩)]) Try.func95 rfl rfl rfl (by simp) ?_
  repeat (first | refine qS ?_ | refine qB ?_ | refine qT rfl ?_ | refine qF rfl ?_ | ((first | refine qR rfl ?_ | refine qK ?_ | refine qE ?_ | refine qW ?_ | refine qM ?_); try simp -dsimp (maxSteps := 2000000) (disch := first | omega | (simp only [qZ] <;> omega) | fail) only [push_cast, ↓qP, ↓reduceIte, Nat.reduceEqDiff, Nat.reduceAdd, Nat.reduceMul, Nat.reduceSub, Nat.reduceLeDiff, Int.reduceToNat, reduceCtorEq, h.rdc, h.fz]) | (refine qA ?_ ?_; (first | omega | (simp only [qL]; omega) | (simp only [qD] at *; omega))))
  have h1 : At3 (w.setCell ⟨a, 1, none⟩ (.int .i64 ((s.i : Int) + 1))) a l s.on := h.set 1 _
  have k1 : Kp (· = a) w (w.setCell ⟨a, 1, none⟩ (.int .i64 ((s.i : Int) + 1))) := (Kp.refl (· = a) w).setCell (fun _ => rfl) _
  generalize (w.setCell ⟨a, 1, none⟩ (.int .i64 ((s.i : Int) + 1))) = w1 at *
  refine CallV.of isCall_71 (more3_any h1) ?_
  rintro _ _ ⟨rfl, rfl⟩
  rcases Bool.eq_false_or_eq_true (more3 l s.on) with hm | hm
  · obtain ⟨hf0, hlt1⟩ := (more3_iff l s.on).1 hm
    have hsi : s.on.i = s.i + 1 := rfl
    rw [hsi] at hlt1
    refine Sm.out ?_
    repeat (first | refine qS ?_ | refine qB ?_ | refine qT rfl ?_ | refine qF rfl ?_ | ((first | refine qR rfl ?_ | refine qK ?_ | refine qE ?_ | refine qW ?_ | refine qM ?_); try simp -dsimp (maxSteps := 2000000) (disch := first | omega | (simp only [qZ] <;> omega) | fail) only [push_cast, ↓qP, ↓reduceIte, Nat.reduceEqDiff, Nat.reduceAdd, Nat.reduceMul, Nat.reduceSub, Nat.reduceLeDiff, Int.reduceToNat, reduceCtorEq, hm]) | (refine qA ?_ ?_; (first | omega | (simp only [qL]; omega) | (simp only [qD] at *; omega))))
    refine CallV.of isCall_72 (peek3 h1.drew (by rw [hsi]; omega)) ?_
    rintro _ _ ⟨rfl, rfl⟩
    rw [hsi]
    have he : escape3 l s = if digs 48 55 (byteAt l (s.i + 1)) then (UInt8.ofNat ((oct3 l 3 (s.i + 1) 0).1 % 256), { s with i := (oct3 l 3 (s.i + 1) 0).2 }) else (escMap (byteAt l (s.i + 1)), s.on 2) := by
      unfold escape3; rw [if_pos hm]
    have h2 : At3 w1.drew.drew a l s.on := h1.drew.drew
    have k2 : Kp (· = a) w w1.drew.drew := k1.drew.drew
    have hlt2 := h2.lt
    generalize w1.drew.drew = w2 at *
    by_cases hd : digs 48 55 (byteAt l (s.i + 1)) = true
    · rw [if_pos hd] at he
      obtain ⟨d1, d2⟩ := digs_ge hd
      have d1' : decide (((byteAt l (s.i + 1)).toNat : Int) ≥ 48) = true := d1
      have d2' : decide (((byteAt l (s.i + 1)).toNat : Int) ≤ 55) = true := d2
      refine Sm.out ?_
      repeat (first | refine qS ?_ | refine qB ?_ | refine qT rfl ?_ | refine qF rfl ?_ | ((first | refine qR rfl ?_ | refine qK ?_ | refine qE ?_ | refine qW ?_ | refine qM ?_); try simp -dsimp (maxSteps := 2000000) (disch := first | omega | (simp only [qZ] <;> omega) | fail) only [push_cast, ↓qP, ↓reduceIte, Nat.reduceEqDiff, Nat.reduceAdd, Nat.reduceMul, Nat.reduceSub, Nat.reduceLeDiff, Int.reduceToNat, reduceCtorEq, d1', d2']) | (refine qA ?_ ?_; (first | omega | (simp only [qL]; omega) | (simp only [qD] at *; omega))))
      refine Wp.loop (α := Nat) (fun k F w3 => ∃ (t : S3) (n : Nat), F 0 = .pointer (some ⟨a, 0, none⟩) ∧ F 5 = .int .i64 k ∧ F 4 = .int .i64 n ∧ At3 w3 a l t ∧ Kp (· = a) w w3 ∧ k ≤ 3 ∧ t.i ≤ s.i + 1 + k ∧ n < 8 ^ k ∧ Hide (t.f = s.f ∧ t.d = s.d) ∧ Hide (oct3 l (3 - k) t.i n = oct3 l 3 (s.i + 1) 0)) (fun k => 3 - k) 0
        ⟨s.on, 0, ?_, ?_, ?_, h2, k2, by omega, by rw [hsi]; omega, by decide, ⟨rfl, rfl⟩, ⟨rfl⟩⟩ ?_
      · simp -dsimp (maxSteps := 2000000) (disch := first | omega | (simp only [qZ] <;> omega) | fail) only [push_cast, ↓qP, ↓reduceIte, Nat.reduceEqDiff, Nat.reduceAdd, Nat.reduceMul, Nat.reduceSub, Nat.reduceLeDiff, Int.reduceToNat, reduceCtorEq]
      · simp -dsimp (maxSteps := 2000000) (disch := first | omega | (simp only [qZ] <;> omega) | fail) only [push_cast, ↓qP, ↓reduceIte, Nat.reduceEqDiff, Nat.reduceAdd, Nat.reduceMul, Nat.reduceSub, Nat.reduceLeDiff, Int.reduceToNat, reduceCtorEq]
      · simp -dsimp (maxSteps := 2000000) (disch := first | omega | (simp only [qZ] <;> omega) | fail) only [push_cast, ↓qP, ↓reduceIte, Nat.reduceEqDiff, Nat.reduceAdd, Nat.reduceMul, Nat.reduceSub, Nat.reduceLeDiff, Int.reduceToNat, reduceCtorEq]
      rintro k F w3 ⟨t, n, f0, f5, f4, h3, k3, hk, hi3, hn', hfd, hoct⟩
      have hlt3 := h3.lt
      have hn : n < 512 := Nat.lt_of_lt_of_le hn' (Nat.pow_le_pow_right (by omega) hk : 8 ^ k ≤ 8 ^ 3)
      have hnk : Hide (n < 8 ^ k) := ⟨hn'⟩
      clear hn'
      replace he : Hide (escape3 l s = _) := ⟨he⟩
      by_cases hgo : k < 3 ∧ t.i < l.length ∧ digs 48 55 (byteAt l t.i) = true
      · obtain ⟨g1, g2, g3⟩ := hgo
        have g1' : decide ((k : Int) < 3) = true := by simp; omega
        have g2' : decide ((t.i : Int) < (l.length : Int)) = true := by simp; omega
        obtain ⟨c1, c2⟩ := digs_ge g3
        have c1' : decide (((byteAt l t.i).toNat : Int) ≥ 48) = true := c1
        have c2' : decide (((byteAt l t.i).toNat : Int) ≤ 55) = true := c2
        repeat (first | refine qS ?_ | refine qB ?_ | refine qT rfl ?_ | refine qF rfl ?_ | ((first | refine qR rfl ?_ | refine qK ?_ | refine qE ?_ | refine qW ?_ | refine qM ?_); try simp -dsimp (maxSteps := 2000000) (disch := first | omega | (simp only [qZ] <;> omega) | fail) only [push_cast, ↓qP, ↓reduceIte, Nat.reduceEqDiff, Nat.reduceAdd, Nat.reduceMul, Nat.reduceSub, Nat.reduceLeDiff, Int.reduceToNat, reduceCtorEq]) | (refine qA ?_ ?_; (first | omega | (simp only [qL]; omega) | (simp only [qD] at *; omega))))
        obtain ⟨c3, c4⟩ := (digs_iff _ _ _).1 g3
        change 48 ≤ (l.getD t.i 0).toNat at c3
        change (l.getD t.i 0).toNat ≤ 55 at c4
        have hstep : oct3 l (3 - k) t.i n = oct3 l (3 - (k + 1)) (t.i + 1) (8 * n + ((byteAt l t.i).toNat - 48)) := by
          rw [show 3 - k = (3 - (k + 1)) + 1 by omega]
          simp only [oct3]
          rw [if_pos (by rw [g3]; simp [g2])]
        replace hstep : Hide (oct3 l (3 - (k + 1)) (t.i + 1) (8 * n + ((byteAt l t.i).toNat - 48)) = oct3 l 3 (s.i + 1) 0) := ⟨by rw [← hstep]; exact hoct.out⟩
        refine Wp.draw [0, 1, 3, 7, 15, 31, 63, 7, 135, 391, 903, 1927, 4095, 8191, 16383, 32767, 65535, 131071, 262143, 32767, 557055, 1605631, 3702783, 8388607, 16777215, 33554431, 67108863, 134217727, 268435455, 536870911, 1073741823, 134217727, 2281701375, 6576668671, 15166603263, 34359738367, 68719476735, 137438953471] [] (.op 0 false false [] <| .op 1 false false [] <| .op 2 false false [] <| .op 3 false false [] <| .op 4 false false [] <| .op 5 false false [] <| .op 6 false false [] <| .op 7 false false [] <| .op 8 false false [] <| .op 9 false false [] <| .op 10 false false [] <| .op 11 false false [] <| .op 12 false false [] <| .op 13 false false [] <| .op 14 false false [] <| .op 15 false false [] <| .op 16 false false [] <| .op 17 false false [] <| .op 18 false false [] <| .op 19 false false [] <| .op 20 false false [] <| .op 21 false false [] <| .op 22 false false [] <| .op 23 false false [] <| .op 24 false false [] <| .op 25 false false [] <| .op 26 false false [] <| .op 27 false false [] <| .op 28 false false [] <| .op 29 false false [] <| .op 30 false false [] <| .op 31 false false [] <| .op 32 false false [] <| .op 33 false false [] <| .op 34 false false [] <| .op 35 false false [] <| .op 36 false false [] <| .op 37 false false [] <| .nil) mixed (by kernel_rfl) ?_
        simp -dsimp (maxSteps := 2000000) (disch := first | omega | (simp only [qZ] <;> omega) | fail) only [push_cast, ↓qP, ↓reduceIte, Nat.reduceEqDiff, Nat.reduceAdd, Nat.reduceMul, Nat.reduceSub, Nat.reduceLeDiff, Int.reduceToNat, reduceCtorEq, f0, f5, f4, h3.rdc, g1', g2', c1', c2']
        refine ⟨by omega, by omega, ?_⟩
        refine Sm.out ?_
        repeat (first | refine qS ?_ | refine qB ?_ | refine qT rfl ?_ | refine qF rfl ?_ | ((first | refine qR rfl ?_ | refine qK ?_ | refine qE ?_ | refine qW ?_ | refine qM ?_); try simp -dsimp (maxSteps := 2000000) (disch := first | omega | (simp only [qZ] <;> omega) | fail) only [push_cast, ↓qP, ↓reduceIte, Nat.reduceEqDiff, Nat.reduceAdd, Nat.reduceMul, Nat.reduceSub, Nat.reduceLeDiff, Int.reduceToNat, reduceCtorEq, f0, f5, f4]) | (refine qA ?_ ?_; (first | omega | (simp only [qL]; omega) | (simp only [qD] at *; omega))))
        refine Wp.draw [0, 1, 0, 4, 12, 28, 0, 64, 192, 448, 1020, 2044, 4092, 8191, 16383] [] (.op 0 false false [] <| .op 1 false false [] <| .op 2 false false [] <| .op 3 false false [] <| .op 4 false false [] <| .op 5 false false [] <| .op 6 false false [] <| .op 7 false false [] <| .op 8 false false [] <| .op 9 false false [] <| .op 10 false false [] <| .op 11 false false [] <| .op 12 false false [] <| .op 13 false false [] <| .op 14 false false [] <| .nil) mixed (by kernel_rfl) ?_
        simp -dsimp (maxSteps := 2000000) (disch := first | omega | (simp only [qZ] <;> omega) | fail) only [push_cast, ↓qP, ↓reduceIte, Nat.reduceEqDiff, Nat.reduceAdd, Nat.reduceMul, Nat.reduceSub, Nat.reduceLeDiff, Int.reduceToNat, reduceCtorEq, f0, f5, f4, h3.rdc]
        refine ⟨by omega, ?_⟩
        refine Sm.out ?_
        repeat (first | refine qS ?_ | refine qB ?_ | refine qT rfl ?_ | refine qF rfl ?_ | ((first | refine qR rfl ?_ | refine qK ?_ | refine qE ?_ | refine qW ?_ | refine qM ?_); try simp -dsimp (maxSteps := 2000000) (disch := first | omega | (simp only [qZ] <;> omega) | fail) only [push_cast, ↓qP, ↓reduceIte, Nat.reduceEqDiff, Nat.reduceAdd, Nat.reduceMul, Nat.reduceSub, Nat.reduceLeDiff, Int.reduceToNat, reduceCtorEq, f0, f5, f4, h3.rdc, h3.fz]) | (refine qA ?_ ?_; (first | omega | (simp only [qL]; omega) | (simp only [qD] at *; omega))))
        have h4 := h3.drew.drew.set 1 (.int .i64 ((t.i : Int) + 1))
        refine Again.mk (k + 1) ⟨t.on, 8 * n + ((l.getD t.i 0).toNat - 48), ?_, ?_, ?_, h4, (k3.drew.drew).setCell (fun _ => rfl) _, by omega, by show t.i + 1 ≤ _; omega, ?_, hfd, hstep⟩ (by omega)
        · simp -dsimp (maxSteps := 2000000) (disch := first | omega | (simp only [qZ] <;> omega) | fail) only [push_cast, ↓qP, ↓reduceIte, Nat.reduceEqDiff, Nat.reduceAdd, Nat.reduceMul, Nat.reduceSub, Nat.reduceLeDiff, Int.reduceToNat, reduceCtorEq, f0]
        · simp -dsimp (maxSteps := 2000000) (disch := first | omega | (simp only [qZ] <;> omega) | fail) only [push_cast, ↓qP, ↓reduceIte, Nat.reduceEqDiff, Nat.reduceAdd, Nat.reduceMul, Nat.reduceSub, Nat.reduceLeDiff, Int.reduceToNat, reduceCtorEq, f5]
        · simp -dsimp (maxSteps := 2000000) (disch := first | omega | (simp only [qZ] <;> omega) | fail) only [push_cast, ↓qP, ↓reduceIte, Nat.reduceEqDiff, Nat.reduceAdd, Nat.reduceMul, Nat.reduceSub, Nat.reduceLeDiff, Int.reduceToNat, reduceCtorEq, f4]
          congr 1
        · have := hnk.out
          rw [Nat.pow_succ]
          omega
      · have hout : oct3 l (3 - k) t.i n = (n, t.i) := by
          have : 3 - k = 0 ∨ ∃ m, 3 - k = m + 1 := by cases 3 - k <;> simp
          rcases this with e | ⟨m, e⟩
          · rw [e]; rfl
          · rw [e]; simp only [oct3]; rw [if_neg]; simp; intro h4; simpa using fun h5 => hgo ⟨by omega, h4, h5⟩
        have hoct' := hoct.out
        rw [hout] at hoct'
        have he' := he.out
        rw [← hoct'] at he'
        replace he' : Hide (escape3 l s = _) := ⟨he'⟩
        clear hoct' he hoct hout
        replace hgo : Hide _ := ⟨hgo⟩
        repeat (first | refine qS ?_ | refine qB ?_ | refine qT rfl ?_ | refine qF rfl ?_ | ((first | refine qR rfl ?_ | refine qK ?_ | refine qE ?_ | refine qW ?_ | refine qM ?_); try simp -dsimp (maxSteps := 2000000) (disch := first | omega | (simp only [qZ] <;> omega) | fail) only [push_cast, ↓qP, ↓reduceIte, Nat.reduceEqDiff, Nat.reduceAdd, Nat.reduceMul, Nat.reduceSub, Nat.reduceLeDiff, Int.reduceToNat, reduceCtorEq]) | (refine qA ?_ ?_; (first | omega | (simp only [qL]; omega) | (simp only [qD] at *; omega))))
        refine Wp.draw [0, 1, 3, 7, 15, 31, 63, 7, 135, 391, 903, 1927, 4095, 8191, 16383, 32767, 65535, 131071, 262143, 32767, 557055, 1605631, 3702783, 8388607, 16777215, 33554431, 67108863, 134217727, 268435455, 536870911, 1073741823, 134217727, 2281701375, 6576668671, 15166603263, 34359738367, 68719476735, 137438953471] [] (.op 0 false false [] <| .op 1 false false [] <| .op 2 false false [] <| .op 3 false false [] <| .op 4 false false [] <| .op 5 false false [] <| .op 6 false false [] <| .op 7 false false [] <| .op 8 false false [] <| .op 9 false false [] <| .op 10 false false [] <| .op 11 false false [] <| .op 12 false false [] <| .op 13 false false [] <| .op 14 false false [] <| .op 15 false false [] <| .op 16 false false [] <| .op 17 false false [] <| .op 18 false false [] <| .op 19 false false [] <| .op 20 false false [] <| .op 21 false false [] <| .op 22 false false [] <| .op 23 false false [] <| .op 24 false false [] <| .op 25 false false [] <| .op 26 false false [] <| .op 27 false false [] <| .op 28 false false [] <| .op 29 false false [] <| .op 30 false false [] <| .op 31 false false [] <| .op 32 false false [] <| .op 33 false false [] <| .op 34 false false [] <| .op 35 false false [] <| .op 36 false false [] <| .op 37 false false [] <| .nil) mixed (by kernel_rfl) ?_
        simp -dsimp (maxSteps := 2000000) (disch := first | omega | (simp only [qZ] <;> omega) | fail) only [push_cast, ↓qP, ↓reduceIte, Nat.reduceEqDiff, Nat.reduceAdd, Nat.reduceMul, Nat.reduceSub, Nat.reduceLeDiff, Int.reduceToNat, reduceCtorEq, f0, f5, f4, h3.rdc, h3.fz]
        repeat' (first | refine qS ?_ | refine qB ?_ | refine qT rfl ?_ | refine qF rfl ?_ | ((first | refine qR rfl ?_ | refine qK ?_ | refine qE ?_ | refine qW ?_ | refine qM ?_); try simp -dsimp (maxSteps := 2000000) (disch := first | omega | (simp only [qZ] <;> omega) | fail) only [push_cast, ↓qP, ↓reduceIte, Nat.reduceEqDiff, Nat.reduceAdd, Nat.reduceMul, Nat.reduceSub, Nat.reduceLeDiff, Int.reduceToNat, reduceCtorEq, f0, f5, f4, h3.rdc, h3.fz]) | ((refine gsel.mk (fun hg => ?_) (fun hg => ?_)) <;> try simp -dsimp (maxSteps := 2000000) (disch := first | omega | (simp only [qZ] <;> omega) | fail) only [push_cast, ↓qP, ↓reduceIte, Nat.reduceEqDiff, Nat.reduceAdd, Nat.reduceMul, Nat.reduceSub, Nat.reduceLeDiff, Int.reduceToNat, reduceCtorEq, f0, f5, f4, h3.rdc, h3.fz, *]) | refine Wp.cond rfl (fun hg => ?_) (fun hg => ?_) | (refine qA ?_ ?_; (first | omega | (simp only [qL]; omega) | (simp only [qD] at *; omega))))
        all_goals first
          | (exfalso; have hgo' := hgo.out; simp only [decide_eq_true_eq] at *; exact hgo' ⟨by omega, by omega, (digs_iff _ _ _).2 ⟨by show 48 ≤ (l.getD t.i 0).toNat; omega, by show (l.getD t.i 0).toNat ≤ 55; omega⟩⟩)
          | skip
        all_goals
          have hts := S3.ext' hfd.out.1 hfd.out.2
          have hee := he'.out
          rw [hts] at hee
          rw [hee]
          refine Ret.mk ⟨?_, h3.drew, k3.drew⟩
          rw [oct_wrap]
          rfl
    · rw [if_neg hd] at he
      rw [he]
      have hes : byteAt l s.on.i = byteAt l (s.i + 1) := rfl
      generalize byteAt l (s.i + 1) = c at *
      have hd' : digs 48 55 c = false := by simpa using hd
      have e0 : ∀ c u : UInt8, (c == u) = ((c.toNat : Int) == (u.toNat : Int)) := fun c u => (u8_eq' c u).symm
      repeat' (first | refine qS ?_ | refine qB ?_ | refine qT rfl ?_ | refine qF rfl ?_ | ((first | refine qR rfl ?_ | refine qK ?_ | refine qE ?_ | refine qW ?_ | refine qM ?_); try simp -dsimp (maxSteps := 2000000) (disch := first | omega | (simp only [qZ] <;> omega) | fail) only [push_cast, ↓qP, ↓reduceIte, Nat.reduceEqDiff, Nat.reduceAdd, Nat.reduceMul, Nat.reduceSub, Nat.reduceLeDiff, Int.reduceToNat, reduceCtorEq, h2.rdc, h2.fz]) | ((refine gsel.mk (fun hg => ?_) (fun hg => ?_)) <;> try simp -dsimp (maxSteps := 2000000) (disch := first | omega | (simp only [qZ] <;> omega) | fail) only [push_cast, ↓qP, ↓reduceIte, Nat.reduceEqDiff, Nat.reduceAdd, Nat.reduceMul, Nat.reduceSub, Nat.reduceLeDiff, Int.reduceToNat, reduceCtorEq, h2.rdc, h2.fz, *]) | refine Wp.cond rfl (fun hg => ?_) (fun hg => ?_) | (refine qA ?_ ?_; (first | omega | (simp only [qL]; omega) | (simp only [qD] at *; omega))))
      all_goals first
        | (refine Ret.mk ⟨?_, h2.set 1 (.int .i64 ((s.on.i : Int) + 1)), k2.setCell (fun _ => rfl) _⟩; simp_all [escMap, by8, e0]; done)
        | (exfalso; simp [digs] at hd'; simp only [decide_eq_true_eq] at *; omega)
  · refine Sm.out ?_
    repeat (first | refine qS ?_ | refine qB ?_ | refine qT rfl ?_ | refine qF rfl ?_ | ((first | refine qR rfl ?_ | refine qK ?_ | refine qE ?_ | refine qW ?_ | refine qM ?_); try simp -dsimp (maxSteps := 2000000) (disch := first | omega | (simp only [qZ] <;> omega) | fail) only [push_cast, ↓qP, ↓reduceIte, Nat.reduceEqDiff, Nat.reduceAdd, Nat.reduceMul, Nat.reduceSub, Nat.reduceLeDiff, Int.reduceToNat, reduceCtorEq, hm]) | (refine qA ?_ ?_; (first | omega | (simp only [qL]; omega) | (simp only [qD] at *; omega))))
    refine CallV.of isCall_50 (fail3 h1.drew 4) ?_
    rintro _ w2 ⟨rfl, h2, k2⟩
    refine Sm.out ?_
    repeat (first | refine qS ?_ | refine qB ?_ | refine qT rfl ?_ | refine qF rfl ?_ | ((first | refine qR rfl ?_ | refine qK ?_ | refine qE ?_ | refine qW ?_ | refine qM ?_); try simp -dsimp (maxSteps := 2000000) (disch := first | omega | (simp only [qZ] <;> omega) | fail) only [push_cast, ↓qP, ↓reduceIte, Nat.reduceEqDiff, Nat.reduceAdd, Nat.reduceMul, Nat.reduceSub, Nat.reduceLeDiff, Int.reduceToNat, reduceCtorEq]) | (refine qA ?_ ?_; (first | omega | (simp only [qL]; omega) | (simp only [qD] at *; omega))))
    have e : escape3 l s = (0, (s.on).fail 4) := by unfold escape3; rw [hm]; rfl
    rw [e]
    exact Ret.mk ⟨rfl, h2, k1.drew.trans k2⟩

theorem number3_any (h : At3 w a l s) (hl : l.length ≤ 1000000) (hi : s.i ≤ 2000000) :
    Calls Try.prog 92 #[.pointer (some ⟨a, 0, none⟩)] w fun e w' => e = .returned (.tuple #[.int .i64 (digit3 l s).1.1, .bool (digit3 l s).1.2]) ∧ At3 w' a l (digit3 l s).2 ∧ Kp (· = a) w w' := by
  have hlt := h.lt
  refine enter (n := 64) (args := [.pointer (some ⟨a, 0, none⟩)]) Try.func92 rfl rfl rfl (by simp) ?_
  repeat (first | refine qS ?_ | refine qB ?_ | refine qT rfl ?_ | refine qF rfl ?_ | ((first | refine qR rfl ?_ | refine qK ?_ | refine qE ?_ | refine qW ?_ | refine qM ?_); try simp -dsimp (maxSteps := 2000000) (disch := first | omega | (simp only [qZ] <;> omega) | fail) only [push_cast, ↓qP, ↓reduceIte, Nat.reduceEqDiff, Nat.reduceAdd, Nat.reduceMul, Nat.reduceSub, Nat.reduceLeDiff, Int.reduceToNat, reduceCtorEq, h.rdc]) | (refine qA ?_ ?_; (first | omega | (simp only [qL]; omega) | (simp only [qD] at *; omega))))
  refine Wp.loop (α := Nat) (fun k F w3 => ∃ (t : S3) (n : Int) (b : Bool), F 0 = .pointer (some ⟨a, 0, none⟩) ∧ F 4 = .int .i64 n ∧ F 5 = .bool b ∧ At3 w3 a l t ∧ Kp (· = a) w w3 ∧ k ≤ l.length ∧ t.i = s.i + k ∧ 0 ≤ n ∧ n ≤ 1000 ∧ Hide (t.f = s.f ∧ t.d = s.d) ∧ Hide (num3 l (l.length - k) t.i n b = num3 l l.length s.i 0 false)) (fun k => l.length - k) 0
    ⟨s, 0, false, ?_, ?_, ?_, h, Kp.refl _ _, by omega, by omega, by omega, by omega, ⟨rfl, rfl⟩, ⟨rfl⟩⟩ ?_
  · simp -dsimp (maxSteps := 2000000) (disch := first | omega | (simp only [qZ] <;> omega) | fail) only [push_cast, ↓qP, ↓reduceIte, Nat.reduceEqDiff, Nat.reduceAdd, Nat.reduceMul, Nat.reduceSub, Nat.reduceLeDiff, Int.reduceToNat, reduceCtorEq]
  · simp -dsimp (maxSteps := 2000000) (disch := first | omega | (simp only [qZ] <;> omega) | fail) only [push_cast, ↓qP, ↓reduceIte, Nat.reduceEqDiff, Nat.reduceAdd, Nat.reduceMul, Nat.reduceSub, Nat.reduceLeDiff, Int.reduceToNat, reduceCtorEq]
  · simp -dsimp (maxSteps := 2000000) (disch := first | omega | (simp only [qZ] <;> omega) | fail) only [push_cast, ↓qP, ↓reduceIte, Nat.reduceEqDiff, Nat.reduceAdd, Nat.reduceMul, Nat.reduceSub, Nat.reduceLeDiff, Int.reduceToNat, reduceCtorEq]
  rintro k F w3 ⟨t, n, b, f0, f4, f5, h3, k3, hk, hti, hn0, hn1, hfd, hnum⟩
  have hlt3 := h3.lt
  by_cases hgo : t.i < l.length ∧ digs 48 57 (byteAt l t.i) = true
  · obtain ⟨g2, g3⟩ := hgo
    have g2' : decide ((t.i : Int) < (l.length : Int)) = true := by simp; omega
    obtain ⟨c1, c2⟩ := digs_ge g3
    have c1' : decide (((byteAt l t.i).toNat : Int) ≥ 48) = true := c1
    have c2' : decide (((byteAt l t.i).toNat : Int) ≤ 57) = true := c2
    obtain ⟨c3, c4⟩ := (digs_iff _ _ _).1 g3
    change 48 ≤ (l.getD t.i 0).toNat at c3
    change (l.getD t.i 0).toNat ≤ 57 at c4
    have hstep : num3 l (l.length - k) t.i n b = num3 l (l.length - (k + 1)) (t.i + 1) (min (10 * n + ((byteAt l t.i).toNat - 48 : Int)) 1000) true := by
      rw [show l.length - k = (l.length - (k + 1)) + 1 by omega]
      simp only [num3]
      rw [if_pos (by rw [g3]; simp [g2])]
    replace hstep : Hide (num3 l (l.length - (k + 1)) (t.i + 1) (min (10 * n + ((byteAt l t.i).toNat - 48 : Int)) 1000) true = num3 l l.length s.i 0 false) := ⟨by rw [← hstep]; exact hnum.out⟩
    repeat (first | refine qS ?_ | refine qB ?_ | refine qT rfl ?_ | refine qF rfl ?_ | ((first | refine qR rfl ?_ | refine qK ?_ | refine qE ?_ | refine qW ?_ | refine qM ?_); try simp -dsimp (maxSteps := 2000000) (disch := first | omega | (simp only [qZ] <;> omega) | fail) only [push_cast, ↓qP, ↓reduceIte, Nat.reduceEqDiff, Nat.reduceAdd, Nat.reduceMul, Nat.reduceSub, Nat.reduceLeDiff, Int.reduceToNat, reduceCtorEq]) | (refine qA ?_ ?_; (first | omega | (simp only [qL]; omega) | (simp only [qD] at *; omega))))
    refine Wp.draw [0, 1, 3, 7, 0, 16, 48, 112, 240, 511, 1023, 2047, 4095, 8191, 16383, 2047, 34815, 100351, 231423, 524287, 1048575, 2097151, 4194303, 8388607, 16777215, 33554431, 67108863, 8388607, 142606335, 411041791, 947912703, 2147483647, 4294967295, 8589934591] [] (.op 0 false false [] <| .op 1 false false [] <| .op 2 false false [] <| .op 3 false false [] <| .op 4 false false [] <| .op 5 false false [] <| .op 6 false false [] <| .op 7 false false [] <| .op 8 false false [] <| .op 9 false false [] <| .op 10 false false [] <| .op 11 false false [] <| .op 12 false false [] <| .op 13 false false [] <| .op 14 false false [] <| .op 15 false false [] <| .op 16 false false [] <| .op 17 false false [] <| .op 18 false false [] <| .op 19 false false [] <| .op 20 false false [] <| .op 21 false false [] <| .op 22 false false [] <| .op 23 false false [] <| .op 24 false false [] <| .op 25 false false [] <| .op 26 false false [] <| .op 27 false false [] <| .op 28 false false [] <| .op 29 false false [] <| .op 30 false false [] <| .op 31 false false [] <| .op 32 false false [] <| .op 33 false false [] <| .nil) mixed (by kernel_rfl) ?_
    simp -dsimp (maxSteps := 2000000) (disch := first | omega | (simp only [qZ] <;> omega) | fail) only [push_cast, ↓qP, ↓reduceIte, Nat.reduceEqDiff, Nat.reduceAdd, Nat.reduceMul, Nat.reduceSub, Nat.reduceLeDiff, Int.reduceToNat, reduceCtorEq, f0, f4, f5, h3.rdc, g2', c1', c2']
    refine ⟨by omega, by omega, ?_⟩
    refine Sm.out ?_
    repeat (first | refine qS ?_ | refine qB ?_ | refine qT rfl ?_ | refine qF rfl ?_ | ((first | refine qR rfl ?_ | refine qK ?_ | refine qE ?_ | refine qW ?_ | refine qM ?_); try simp -dsimp (maxSteps := 2000000) (disch := first | omega | (simp only [qZ] <;> omega) | fail) only [push_cast, ↓qP, ↓reduceIte, Nat.reduceEqDiff, Nat.reduceAdd, Nat.reduceMul, Nat.reduceSub, Nat.reduceLeDiff, Int.reduceToNat, reduceCtorEq, f0, f4, f5]) | (refine qA ?_ ?_; (first | omega | (simp only [qL]; omega) | (simp only [qD] at *; omega))))
    refine Wp.draw [0, 1, 0, 4, 12, 28, 0, 64, 192, 448, 1020, 2044, 4092, 8191, 16383, 32767] [] (.op 0 false false [] <| .op 1 false false [] <| .op 2 false false [] <| .op 3 false false [] <| .op 4 false false [] <| .op 5 false false [] <| .op 6 false false [] <| .op 7 false false [] <| .op 8 false false [] <| .op 9 false false [] <| .op 10 false false [] <| .op 11 false false [] <| .op 12 false false [] <| .op 13 false false [] <| .op 14 false false [] <| .op 15 false false [] <| .nil) mixed (by kernel_rfl) ?_
    simp -dsimp (maxSteps := 2000000) (disch := first | omega | (simp only [qZ] <;> omega) | fail) only [push_cast, ↓qP, ↓reduceIte, Nat.reduceEqDiff, Nat.reduceAdd, Nat.reduceMul, Nat.reduceSub, Nat.reduceLeDiff, Int.reduceToNat, reduceCtorEq, f0, f4, f5, h3.rdc]
    refine ⟨by omega, ?_⟩
    refine Sm.out ?_
    repeat (first | refine qS ?_ | refine qB ?_ | refine qT rfl ?_ | refine qF rfl ?_ | ((first | refine qR rfl ?_ | refine qK ?_ | refine qE ?_ | refine qW ?_ | refine qM ?_); try simp -dsimp (maxSteps := 2000000) (disch := first | omega | (simp only [qZ] <;> omega) | fail) only [push_cast, ↓qP, ↓reduceIte, Nat.reduceEqDiff, Nat.reduceAdd, Nat.reduceMul, Nat.reduceSub, Nat.reduceLeDiff, Int.reduceToNat, reduceCtorEq, f0, f4, f5, h3.rdc, h3.fz]) | (refine qA ?_ ?_; (first | omega | (simp only [qL]; omega) | (simp only [qD] at *; omega))))
    have h4 := h3.drew.drew.set 1 (.int .i64 ((t.i : Int) + 1))
    refine Again.mk (k + 1) ⟨t.on, _, true, ?_, ?_, ?_, h4, (k3.drew.drew).setCell (fun _ => rfl) _, by omega, by show t.i + 1 = _; omega, ?_, ?_, hfd, hstep⟩ (by omega)
    · simp -dsimp (maxSteps := 2000000) (disch := first | omega | (simp only [qZ] <;> omega) | fail) only [push_cast, ↓qP, ↓reduceIte, Nat.reduceEqDiff, Nat.reduceAdd, Nat.reduceMul, Nat.reduceSub, Nat.reduceLeDiff, Int.reduceToNat, reduceCtorEq, f0]
    · simp -dsimp (maxSteps := 2000000) (disch := first | omega | (simp only [qZ] <;> omega) | fail) only [push_cast, ↓qP, ↓reduceIte, Nat.reduceEqDiff, Nat.reduceAdd, Nat.reduceMul, Nat.reduceSub, Nat.reduceLeDiff, Int.reduceToNat, reduceCtorEq, f4]
    · simp -dsimp (maxSteps := 2000000) (disch := first | omega | (simp only [qZ] <;> omega) | fail) only [push_cast, ↓qP, ↓reduceIte, Nat.reduceEqDiff, Nat.reduceAdd, Nat.reduceMul, Nat.reduceSub, Nat.reduceLeDiff, Int.reduceToNat, reduceCtorEq, f5]
    · show 0 ≤ min (10 * n + (((l.getD t.i 0).toNat : Int) - 48)) 1000; omega
    · show min (10 * n + (((l.getD t.i 0).toNat : Int) - 48)) 1000 ≤ 1000; omega
  · have hout : num3 l (l.length - k) t.i n b = ((n, b), t.i) := by
      have : l.length - k = 0 ∨ ∃ m, l.length - k = m + 1 := by cases l.length - k <;> simp
      rcases this with e | ⟨m, e⟩
      · rw [e]; rfl
      · rw [e]; simp only [num3]; rw [if_neg]; simp; intro h4; simpa using fun h5 => hgo ⟨h4, h5⟩
    have he : digit3 l s = ((n, b), t) := by
      unfold digit3
      rw [← hnum.out, hout]
      exact congrArg _ (S3.ext' hfd.out.1 hfd.out.2)
    rw [he]
    clear hout hnum he hti
    replace hgo : Hide _ := ⟨hgo⟩
    repeat (first | refine qS ?_ | refine qB ?_ | refine qT rfl ?_ | refine qF rfl ?_ | ((first | refine qR rfl ?_ | refine qK ?_ | refine qE ?_ | refine qW ?_ | refine qM ?_); try simp -dsimp (maxSteps := 2000000) (disch := first | omega | (simp only [qZ] <;> omega) | fail) only [push_cast, ↓qP, ↓reduceIte, Nat.reduceEqDiff, Nat.reduceAdd, Nat.reduceMul, Nat.reduceSub, Nat.reduceLeDiff, Int.reduceToNat, reduceCtorEq]) | (refine qA ?_ ?_; (first | omega | (simp only [qL]; omega) | (simp only [qD] at *; omega))))
    refine Wp.draw [0, 1, 3, 7, 0, 16, 48, 112, 240, 511, 1023, 2047, 4095, 8191, 16383, 2047, 34815, 100351, 231423, 524287, 1048575, 2097151, 4194303, 8388607, 16777215, 33554431, 67108863, 8388607, 142606335, 411041791, 947912703, 2147483647, 4294967295, 8589934591] [] (.op 0 false false [] <| .op 1 false false [] <| .op 2 false false [] <| .op 3 false false [] <| .op 4 false false [] <| .op 5 false false [] <| .op 6 false false [] <| .op 7 false false [] <| .op 8 false false [] <| .op 9 false false [] <| .op 10 false false [] <| .op 11 false false [] <| .op 12 false false [] <| .op 13 false false [] <| .op 14 false false [] <| .op 15 false false [] <| .op 16 false false [] <| .op 17 false false [] <| .op 18 false false [] <| .op 19 false false [] <| .op 20 false false [] <| .op 21 false false [] <| .op 22 false false [] <| .op 23 false false [] <| .op 24 false false [] <| .op 25 false false [] <| .op 26 false false [] <| .op 27 false false [] <| .op 28 false false [] <| .op 29 false false [] <| .op 30 false false [] <| .op 31 false false [] <| .op 32 false false [] <| .op 33 false false [] <| .nil) mixed (by kernel_rfl) ?_
    simp -dsimp (maxSteps := 2000000) (disch := first | omega | (simp only [qZ] <;> omega) | fail) only [push_cast, ↓qP, ↓reduceIte, Nat.reduceEqDiff, Nat.reduceAdd, Nat.reduceMul, Nat.reduceSub, Nat.reduceLeDiff, Int.reduceToNat, reduceCtorEq, f0, f4, f5, h3.rdc]
    repeat' (first | refine qS ?_ | refine qB ?_ | refine qT rfl ?_ | refine qF rfl ?_ | ((first | refine qR rfl ?_ | refine qK ?_ | refine qE ?_ | refine qW ?_ | refine qM ?_); try simp -dsimp (maxSteps := 2000000) (disch := first | omega | (simp only [qZ] <;> omega) | fail) only [push_cast, ↓qP, ↓reduceIte, Nat.reduceEqDiff, Nat.reduceAdd, Nat.reduceMul, Nat.reduceSub, Nat.reduceLeDiff, Int.reduceToNat, reduceCtorEq, f0, f4, f5, h3.rdc]) | ((refine gsel.mk (fun hg => ?_) (fun hg => ?_)) <;> try simp -dsimp (maxSteps := 2000000) (disch := first | omega | (simp only [qZ] <;> omega) | fail) only [push_cast, ↓qP, ↓reduceIte, Nat.reduceEqDiff, Nat.reduceAdd, Nat.reduceMul, Nat.reduceSub, Nat.reduceLeDiff, Int.reduceToNat, reduceCtorEq, f0, f4, f5, h3.rdc, *]) | refine Wp.cond rfl (fun hg => ?_) (fun hg => ?_) | (refine qA ?_ ?_; (first | omega | (simp only [qL]; omega) | (simp only [qD] at *; omega))))
    all_goals first
      | (exfalso; have hgo' := hgo.out; simp only [decide_eq_true_eq] at *; exact hgo' ⟨by omega, (digs_iff _ _ _).2 ⟨by show 48 ≤ (l.getD t.i 0).toNat; omega, by show (l.getD t.i 0).toNat ≤ 57; omega⟩⟩)
      | exact Ret.mk ⟨rfl, h3.drew, k3.drew⟩
end
end Go.Proofs.Ytddichibegppjaa

/- The reference's reader of expressions: repeats. -/
namespace Go.Proofs.Ytddichibegppjaa
open Go Go.VC

theorem num3_facts (l : List UInt8) : ∀ (k i : Nat) (n : Int) (b : Bool), 0 ≤ n → n ≤ 1000 → i ≤ (num3 l k i n b).2 ∧ (num3 l k i n b).2 ≤ max i l.length ∧ 0 ≤ (num3 l k i n b).1.1 ∧ (num3 l k i n b).1.1 ≤ 1000 := by
  intro k
  induction k with
  | zero => intro i n b h1 h2; simp only [num3]; exact ⟨Nat.le_refl _, by omega, h1, h2⟩
  | succ k ih =>
    intro i n b h1 h2
    simp only [num3]
    split
    · rename_i hc
      simp only [Bool.and_eq_true, decide_eq_true_eq] at hc
      have h3 := (digs_iff _ _ _).1 hc.2
      have h4 : 48 ≤ (byteAt l i).toNat := h3.1
      obtain ⟨q1, q2, q3, q4⟩ := ih (i + 1) (min (10 * n + ((byteAt l i).toNat - 48 : Int)) 1000) true (by omega) (by omega)
      exact ⟨by omega, by omega, q3, q4⟩
    · exact ⟨Nat.le_refl _, by omega, h1, h2⟩
theorem digit3_facts (l : List UInt8) (s : S3) : s.i ≤ (digit3 l s).2.i ∧ (digit3 l s).2.i ≤ max s.i l.length ∧ (digit3 l s).2.f = s.f ∧ (digit3 l s).2.d = s.d ∧ 0 ≤ (digit3 l s).1.1 ∧ (digit3 l s).1.1 ≤ 1000 := by
  obtain ⟨q1, q2, q3, q4⟩ := num3_facts l l.length s.i 0 false (by omega) (by omega)
  exact ⟨q1, q2, rfl, rfl, q3, q4⟩

section
variable {a : Nat} {l : List UInt8} {s : S3} {w : World}

theorem repeat3_any (h : At3 w a l s) (hl : l.length ≤ 1000000) (hi : s.i ≤ 1500000) :
    Calls Try.prog 84 #[.pointer (some ⟨a, 0, none⟩)] w fun e w' => e = .returned (.tuple #[.int .i64 (repeat3 l s).1.1, .int .i64 (repeat3 l s).1.2.1, .bool (repeat3 l s).1.2.2]) ∧ At3 w' a l (repeat3 l s).2 ∧ Kp (· = a) w w' := by
  have hlt := h.lt
  refine enter (n := 181) (args := [.pointer (some ⟨a, 0, none⟩)]) Try.func84 rfl rfl rfl (by simp) ?_
  repeat (first | refine qS ?_ | refine qB ?_ | refine qT rfl ?_ | refine qF rfl ?_ | ((first | refine qR rfl ?_ | refine qK ?_ | refine qE ?_ | refine qW ?_ | refine qM ?_); try simp -dsimp (maxSteps := 2000000) (disch := first | omega | (simp only [qZ] <;> omega) | fail) only [push_cast, ↓qP, ↓reduceIte, seval]) | (refine qA ?_ ?_; (first | omega | (simp only [qL]; omega) | (simp only [qD] at *; omega))))
  refine CallV.of isCall_71 (more3_any h) ?_
  rintro _ _ ⟨rfl, rfl⟩
  rcases Bool.eq_false_or_eq_true (more3 l s) with hm | hm
  · obtain ⟨hf0, hlt1⟩ := (more3_iff l s).1 hm
    refine Sm.out ?_
    repeat (first | refine qS ?_ | refine qB ?_ | refine qT rfl ?_ | refine qF rfl ?_ | ((first | refine qR rfl ?_ | refine qK ?_ | refine qE ?_ | refine qW ?_ | refine qM ?_); try simp -dsimp (maxSteps := 2000000) (disch := first | omega | (simp only [qZ] <;> omega) | fail) only [push_cast, ↓qP, ↓reduceIte, seval, hm]) | (refine qA ?_ ?_; (first | omega | (simp only [qL]; omega) | (simp only [qD] at *; omega))))
    refine CallV.of isCall_72 (peek3 h.drew hlt1) ?_
    rintro _ _ ⟨rfl, rfl⟩
    have h2 : At3 w.drew.drew a l s := h.drew.drew
    have k2 : Kp (· = a) w w.drew.drew := (Kp.refl (· = a) w).drew.drew
    have hlt2 := h2.lt
    generalize w.drew.drew = w2 at *
    by_cases c42 : byteAt l s.i = 42
    · have hrr : repeat3 l s = ((0, -1, true), s.on) := by simp only [repeat3, hm, Bool.not_true, Bool.false_eq_true, ↓reduceIte, beq_iff_eq, c42] <;> rfl
      have e1 : (((byteAt l s.i).toNat : Int) == 42) = true := by rw [c42]; rfl
      rw [hrr]
      refine Sm.out ?_
      repeat (first | refine qS ?_ | refine qB ?_ | refine qT rfl ?_ | refine qF rfl ?_ | ((first | refine qR rfl ?_ | refine qK ?_ | refine qE ?_ | refine qW ?_ | refine qM ?_); try simp -dsimp (maxSteps := 2000000) (disch := first | omega | (simp only [qZ] <;> omega) | fail) only [push_cast, ↓qP, ↓reduceIte, seval, e1, h2.rdc, h2.fz]) | (refine qA ?_ ?_; (first | omega | (simp only [qL]; omega) | (simp only [qD] at *; omega))))
      exact Ret.mk ⟨rfl, h2.set 1 (.int .i64 ((s.i : Int) + 1)), k2.setCell (fun _ => rfl) _⟩
    have n42 : (((byteAt l s.i).toNat : Int) == 42) = false := by rw [show (42 : Int) = ((42 : UInt8).toNat : Int) from rfl, u8_eq']; simpa using c42
    by_cases c43 : byteAt l s.i = 43
    · have hrr : repeat3 l s = ((1, -1, true), s.on) := by simp only [repeat3, hm, Bool.not_true, Bool.false_eq_true, ↓reduceIte, beq_iff_eq, c42, c43] <;> rfl
      have e1 : (((byteAt l s.i).toNat : Int) == 43) = true := by rw [c43]; rfl
      rw [hrr]
      refine Sm.out ?_
      repeat (first | refine qS ?_ | refine qB ?_ | refine qT rfl ?_ | refine qF rfl ?_ | ((first | refine qR rfl ?_ | refine qK ?_ | refine qE ?_ | refine qW ?_ | refine qM ?_); try simp -dsimp (maxSteps := 2000000) (disch := first | omega | (simp only [qZ] <;> omega) | fail) only [push_cast, ↓qP, ↓reduceIte, seval, n42, e1, h2.rdc, h2.fz]) | (refine qA ?_ ?_; (first | omega | (simp only [qL]; omega) | (simp only [qD] at *; omega))))
      exact Ret.mk ⟨rfl, h2.set 1 (.int .i64 ((s.i : Int) + 1)), k2.setCell (fun _ => rfl) _⟩
    have n43 : (((byteAt l s.i).toNat : Int) == 43) = false := by rw [show (43 : Int) = ((43 : UInt8).toNat : Int) from rfl, u8_eq']; simpa using c43
    by_cases c63 : byteAt l s.i = 63
    · have hrr : repeat3 l s = ((0, 1, true), s.on) := by simp only [repeat3, hm, Bool.not_true, Bool.false_eq_true, ↓reduceIte, beq_iff_eq, c42, c43, c63] <;> rfl
      have e1 : (((byteAt l s.i).toNat : Int) == 63) = true := by rw [c63]; rfl
      rw [hrr]
      refine Sm.out ?_
      repeat (first | refine qS ?_ | refine qB ?_ | refine qT rfl ?_ | refine qF rfl ?_ | ((first | refine qR rfl ?_ | refine qK ?_ | refine qE ?_ | refine qW ?_ | refine qM ?_); try simp -dsimp (maxSteps := 2000000) (disch := first | omega | (simp only [qZ] <;> omega) | fail) only [push_cast, ↓qP, ↓reduceIte, seval, n42, n43, e1, h2.rdc, h2.fz]) | (refine qA ?_ ?_; (first | omega | (simp only [qL]; omega) | (simp only [qD] at *; omega))))
      exact Ret.mk ⟨rfl, h2.set 1 (.int .i64 ((s.i : Int) + 1)), k2.setCell (fun _ => rfl) _⟩
    have n63 : (((byteAt l s.i).toNat : Int) == 63) = false := by rw [show (63 : Int) = ((63 : UInt8).toNat : Int) from rfl, u8_eq']; simpa using c63
    by_cases c123 : byteAt l s.i = 123
    · have e1 : (((byteAt l s.i).toNat : Int) == 123) = true := by rw [c123]; rfl
      refine Sm.out ?_
      repeat (first | refine qS ?_ | refine qB ?_ | refine qT rfl ?_ | refine qF rfl ?_ | ((first | refine qR rfl ?_ | refine qK ?_ | refine qE ?_ | refine qW ?_ | refine qM ?_); try simp -dsimp (maxSteps := 2000000) (disch := first | omega | (simp only [qZ] <;> omega) | fail) only [push_cast, ↓qP, ↓reduceIte, seval, n42, n43, n63, e1, h2.rdc]) | (refine qA ?_ ?_; (first | omega | (simp only [qL]; omega) | (simp only [qD] at *; omega))))
      have hrr : repeat3 l s = if decide ((s.i : Int) + 1 ≥ l.length) || !digs 48 57 (byteAt l (s.i + 1)) then ((0, 0, false), s) else
          let p := digit3 l s.on
          let m := p.1.1
          let s1 := p.2
          let comma := decide ((s1.i : Int) < l.length) && byteAt l s1.i == 44
          let q := digit3 l s1.on
          let n := if comma then (if q.1.2 then q.1.1 else -1) else m
          let s2 := if comma then q.2 else s1
          if decide ((s2.i : Int) ≥ l.length) || !(byteAt l s2.i == 125) || decide (m > 255) || decide (n > 255) || (decide (n ≥ 0) && decide (m > n)) then ((0, 0, false), s2.fail 3)
          else ((m, n, true), s2.on) := by
        simp only [repeat3, hm, Bool.not_true, Bool.false_eq_true, ↓reduceIte, beq_iff_eq, c42, c43, c63, c123] <;> rfl
      by_cases hgo : s.i + 1 < l.length ∧ digs 48 57 (byteAt l (s.i + 1)) = true
      · obtain ⟨g1, g2⟩ := hgo
        obtain ⟨d1, d2⟩ := digs_ge g2
        have d1' : decide (((byteAt l (s.i + 1)).toNat : Int) < 48) = false := by have := of_decide_eq_true d1; change ((byteAt l (s.i + 1)).toNat : Int) ≥ 48 at this; exact decide_eq_false (by omega)
        have d2' : decide (((byteAt l (s.i + 1)).toNat : Int) > 57) = false := by have := of_decide_eq_true d2; change ((byteAt l (s.i + 1)).toNat : Int) ≤ 57 at this; exact decide_eq_false (by omega)
        have g1' : decide ((s.i : Int) + 1 ≥ (l.length : Int)) = false := by simp; omega
        have hix : ((s.i : Int) + 1).toNat = s.i + 1 := by omega
        rw [if_neg (by rw [g1', g2]; simp)] at hrr
        refine Wp.draw [0, 1, 3, 7, 15, 0, 32, 96, 224, 480, 1023, 2047, 4095, 8191, 16383, 32767, 4095, 69631, 200703, 462847, 987135, 2097151, 4194303, 8388607, 16777215, 33554431, 67108863, 134217727, 268435455, 33554431, 570425343, 1644167167, 3791650815, 8086618111, 17179869183, 34359738367, 68719476735] [] (.op 0 false false [] <| .op 1 false false [] <| .op 2 false false [] <| .op 3 false false [] <| .op 4 false false [] <| .op 5 false false [] <| .op 6 false false [] <| .op 7 false false [] <| .op 8 false false [] <| .op 9 false false [] <| .op 10 false false [] <| .op 11 false false [] <| .op 12 false false [] <| .op 13 false false [] <| .op 14 false false [] <| .op 15 false false [] <| .op 16 false false [] <| .op 17 false false [] <| .op 18 false false [] <| .op 19 false false [] <| .op 20 false false [] <| .op 21 false false [] <| .op 22 false false [] <| .op 23 false false [] <| .op 24 false false [] <| .op 25 false false [] <| .op 26 false false [] <| .op 27 false false [] <| .op 28 false false [] <| .op 29 false false [] <| .op 30 false false [] <| .op 31 false false [] <| .op 32 false false [] <| .op 33 false false [] <| .op 34 false false [] <| .op 35 false false [] <| .op 36 false false [] <| .nil) mixed (by kernel_rfl) ?_
        simp -dsimp (maxSteps := 2000000) (disch := first | omega | (simp only [qZ] <;> omega) | fail) only [push_cast, ↓qP, ↓reduceIte, seval, h2.rdc, g1', d1', d2', hix]
        refine ⟨by omega, by omega, ?_⟩
        refine Sm.out ?_
        repeat (first | refine qS ?_ | refine qB ?_ | refine qT rfl ?_ | refine qF rfl ?_ | ((first | refine qR rfl ?_ | refine qK ?_ | refine qE ?_ | refine qW ?_ | refine qM ?_); try simp -dsimp (maxSteps := 2000000) (disch := first | omega | (simp only [qZ] <;> omega) | fail) only [push_cast, ↓qP, ↓reduceIte, seval, h2.rdc, h2.fz]) | (refine qA ?_ ?_; (first | omega | (simp only [qL]; omega) | (simp only [qD] at *; omega))))
        have h4 : At3 (w2.drew.setCell ⟨a, 1, none⟩ (.int .i64 ((s.i : Int) + 1))) a l s.on := h2.drew.set 1 _
        have k4 : Kp (· = a) w (w2.drew.setCell ⟨a, 1, none⟩ (.int .i64 ((s.i : Int) + 1))) := k2.drew.setCell (fun _ => rfl) _
        generalize (w2.drew.setCell ⟨a, 1, none⟩ (.int .i64 ((s.i : Int) + 1))) = w4 at *
        refine CallV.of isCall_92 (number3_any h4 hl (by show s.i + 1 ≤ _; omega)) ?_
        rintro _ w5 ⟨rfl, h5, k5⟩
        have hlt5 := h5.lt
        obtain ⟨q1, q2, q3, q4, q5, q6⟩ := digit3_facts l s.on
        change s.i + 1 ≤ _ at q1
        change _ ≤ max (s.i + 1) _ at q2
        generalize digit3 l s.on = p at *
        obtain ⟨⟨m, mb⟩, s1⟩ := p
        simp only at hrr h5 q1 q2 q3 q4 q5 q6
        refine Sm.out ?_
        repeat (first | refine qS ?_ | refine qB ?_ | refine qT rfl ?_ | refine qF rfl ?_ | ((first | refine qR rfl ?_ | refine qK ?_ | refine qE ?_ | refine qW ?_ | refine qM ?_); try simp -dsimp (maxSteps := 2000000) (disch := first | omega | (simp only [qZ] <;> omega) | fail) only [push_cast, ↓qP, ↓reduceIte, seval]) | (refine qA ?_ ?_; (first | omega | (simp only [qL]; omega) | (simp only [qD] at *; omega))))
        by_cases hc : s1.i < l.length ∧ byteAt l s1.i = 44
        · obtain ⟨c1, c2⟩ := hc
          have c1' : decide ((s1.i : Int) < (l.length : Int)) = true := by simp; omega
          have c2' : (((byteAt l s1.i).toNat : Int) == 44) = true := by rw [c2]; rfl
          have c3' : (byteAt l s1.i == 44) = true := by rw [c2]; rfl
          simp only [c1', c3', Bool.and_self, ↓reduceIte] at hrr
          refine Wp.draw [0, 1, 3, 7, 0, 16, 48, 112, 240, 511, 1023, 2047, 4095, 8191, 16383, 2047, 34815, 100351, 231423, 524287, 1048575, 2097151] [] (.op 0 false false [] <| .op 1 false false [] <| .op 2 false false [] <| .op 3 false false [] <| .op 4 false false [] <| .op 5 false false [] <| .op 6 false false [] <| .op 7 false false [] <| .op 8 false false [] <| .op 9 false false [] <| .op 10 false false [] <| .op 11 false false [] <| .op 12 false false [] <| .op 13 false false [] <| .op 14 false false [] <| .op 15 false false [] <| .op 16 false false [] <| .op 17 false false [] <| .op 18 false false [] <| .op 19 false false [] <| .op 20 false false [] <| .op 21 false false [] <| .nil) mixed (by kernel_rfl) ?_
          simp -dsimp (maxSteps := 2000000) (disch := first | omega | (simp only [qZ] <;> omega) | fail) only [push_cast, ↓qP, ↓reduceIte, seval, h5.rdc, c1', c2']
          refine ⟨by omega, ?_⟩
          refine Sm.out ?_
          repeat (first | refine qS ?_ | refine qB ?_ | refine qT rfl ?_ | refine qF rfl ?_ | ((first | refine qR rfl ?_ | refine qK ?_ | refine qE ?_ | refine qW ?_ | refine qM ?_); try simp -dsimp (maxSteps := 2000000) (disch := first | omega | (simp only [qZ] <;> omega) | fail) only [push_cast, ↓qP, ↓reduceIte, seval, h5.rdc, h5.fz]) | (refine qA ?_ ?_; (first | omega | (simp only [qL]; omega) | (simp only [qD] at *; omega))))
          have h6 : At3 (w5.drew.setCell ⟨a, 1, none⟩ (.int .i64 ((s1.i : Int) + 1))) a l s1.on := h5.drew.set 1 _
          have k6 : Kp (· = a) w (w5.drew.setCell ⟨a, 1, none⟩ (.int .i64 ((s1.i : Int) + 1))) := (k4.trans k5).drew.setCell (fun _ => rfl) _
          generalize (w5.drew.setCell ⟨a, 1, none⟩ (.int .i64 ((s1.i : Int) + 1))) = w6 at *
          refine CallV.of isCall_92 (number3_any h6 hl (by show s1.i + 1 ≤ _; omega)) ?_
          rintro _ w7 ⟨rfl, h7, k7⟩
          have hlt7 := h7.lt
          obtain ⟨r1, r2, r3, r4, r5, r6⟩ := digit3_facts l s1.on
          change s1.i + 1 ≤ _ at r1
          change _ ≤ max (s1.i + 1) _ at r2
          generalize digit3 l s1.on = p2 at *
          obtain ⟨⟨n, nb⟩, s2⟩ := p2
          simp only at hrr h7 r1 r2 r3 r4 r5 r6
          cases nb with
          | true =>
            simp only [↓reduceIte] at hrr
            refine Sm.out ?_
            repeat (first | refine qS ?_ | refine qB ?_ | refine qT rfl ?_ | refine qF rfl ?_ | ((first | refine qR rfl ?_ | refine qK ?_ | refine qE ?_ | refine qW ?_ | refine qM ?_); try simp -dsimp (maxSteps := 2000000) (disch := first | omega | (simp only [qZ] <;> omega) | fail) only [push_cast, ↓qP, ↓reduceIte, seval]) | (refine qA ?_ ?_; (first | omega | (simp only [qL]; omega) | (simp only [qD] at *; omega))))
            have ha := h7
            have ka := (k6.trans k7)
            have hlta := ha.lt
            replace hrr : Hide _ := ⟨hrr⟩
            refine Wp.draw [0, 1, 3, 7, 0, 16, 48, 112, 240, 511, 1023, 2047, 4095, 8191, 16383, 2047, 34815, 100351, 231423, 524287, 1048575, 2097151, 4194303, 8388607, 16777215, 33554431, 67108863, 134217727, 268435455, 536870911, 1073741823, 2147483647, 4294967295, 8589934591, 17179869183, 17179869183, 68719476735, 137438953471, 274877906943] [] (.op 0 false false [] <| .op 1 false false [] <| .op 2 false false [] <| .op 3 false false [] <| .op 4 false false [] <| .op 5 false false [] <| .op 6 false false [] <| .op 7 false false [] <| .op 8 false false [] <| .op 9 false false [] <| .op 10 false false [] <| .op 11 false false [] <| .op 12 false false [] <| .op 13 false false [] <| .op 14 false false [] <| .op 15 false false [] <| .op 16 false false [] <| .op 17 false false [] <| .op 18 false false [] <| .op 19 false false [] <| .op 20 false false [] <| .op 21 false false [] <| .op 22 false false [] <| .op 23 false false [] <| .op 24 false false [] <| .op 25 false false [] <| .op 26 false false [] <| .op 27 false false [] <| .op 28 false false [] <| .op 29 false false [] <| .op 30 false false [] <| .op 31 false false [] <| .op 32 false false [] <| .op 33 false false [] <| .op 34 false false [] <| .op 35 false false [] <| .op 36 false false [] <| .op 37 false false [] <| .op 38 false false [] <| .nil) mixed (by kernel_rfl) ?_
            simp -dsimp (maxSteps := 2000000) (disch := first | omega | (simp only [qZ] <;> omega) | fail) only [push_cast, ↓qP, ↓reduceIte, seval, ha.rdc, ha.fz]
            repeat' (first | refine qS ?_ | refine qB ?_ | refine qT rfl ?_ | refine qF rfl ?_ | ((first | refine qR rfl ?_ | refine qK ?_ | refine qE ?_ | refine qW ?_ | refine qM ?_); try simp -dsimp (maxSteps := 2000000) (disch := first | omega | (simp only [qZ] <;> omega) | fail) only [push_cast, ↓qP, ↓reduceIte, seval, ha.rdc, ha.fz]) | ((refine gsel.mk (fun hg => ?_) (fun hg => ?_)) <;> try simp -dsimp (maxSteps := 2000000) (disch := first | omega | (simp only [qZ] <;> omega) | fail) only [push_cast, ↓qP, ↓reduceIte, seval, ha.rdc, ha.fz, *]) | refine Wp.cond rfl (fun hg => ?_) (fun hg => ?_) | (refine qA ?_ ?_; (first | omega | (simp only [qL]; omega) | (simp only [qD] at *; omega))))
            all_goals
              have hr1 := hrr.out
              have e125 : ∀ c : UInt8, (c == 125) = ((c.toNat : Int) == 125) := fun c => (u8_eq' c 125).symm
              first
              | (rw [if_pos (by rw [e125]; simp_all <;> (intros; omega))] at hr1
                 refine CallV.of isCall_50 (fail3 ha.drew 3) ?_
                 rintro _ w9 ⟨rfl, h9, k9⟩
                 refine Sm.out ?_
                 repeat (first | refine qS ?_ | refine qB ?_ | refine qT rfl ?_ | refine qF rfl ?_ | ((first | refine qR rfl ?_ | refine qK ?_ | refine qE ?_ | refine qW ?_ | refine qM ?_); try simp -dsimp (maxSteps := 2000000) (disch := first | omega | (simp only [qZ] <;> omega) | fail) only [push_cast, ↓qP, ↓reduceIte, seval]) | (refine qA ?_ ?_; (first | omega | (simp only [qL]; omega) | (simp only [qD] at *; omega))))
                 rw [hr1]
                 exact Ret.mk ⟨rfl, h9, ka.drew.trans k9⟩)
              | (rw [if_neg (by rw [e125]; simp_all <;> (intros; omega))] at hr1
                 rw [hr1]
                 exact Ret.mk ⟨rfl, ha.drew.set 1 (.int .i64 ((s2.i : Int) + 1)), ka.drew.setCell (fun _ => rfl) _⟩)
          | false =>
            simp only [Bool.false_eq_true, ↓reduceIte] at hrr
            generalize hnn : (-1 : Int) = n1 at *
            refine Sm.out ?_
            repeat (first | refine qS ?_ | refine qB ?_ | refine qT rfl ?_ | refine qF rfl ?_ | ((first | refine qR rfl ?_ | refine qK ?_ | refine qE ?_ | refine qW ?_ | refine qM ?_); try simp -dsimp (maxSteps := 2000000) (disch := first | omega | (simp only [qZ] <;> omega) | fail) only [push_cast, ↓qP, ↓reduceIte, seval]) | (refine qA ?_ ?_; (first | omega | (simp only [qL]; omega) | (simp only [qD] at *; omega))))
            have ha := h7
            have ka := (k6.trans k7)
            have hlta := ha.lt
            replace hrr : Hide _ := ⟨hrr⟩
            refine Wp.draw [0, 1, 3, 7, 0, 16, 48, 112, 240, 511, 1023, 2047, 4095, 8191, 16383, 2047, 34815, 100351, 231423, 524287, 1048575, 2097151, 4194303, 8388607, 16777215, 33554431, 67108863, 134217727, 268435455, 536870911, 1073741823, 2147483647, 4294967295, 8589934591, 17179869183, 17179869183, 68719476735, 137438953471, 274877906943] [] (.op 0 false false [] <| .op 1 false false [] <| .op 2 false false [] <| .op 3 false false [] <| .op 4 false false [] <| .op 5 false false [] <| .op 6 false false [] <| .op 7 false false [] <| .op 8 false false [] <| .op 9 false false [] <| .op 10 false false [] <| .op 11 false false [] <| .op 12 false false [] <| .op 13 false false [] <| .op 14 false false [] <| .op 15 false false [] <| .op 16 false false [] <| .op 17 false false [] <| .op 18 false false [] <| .op 19 false false [] <| .op 20 false false [] <| .op 21 false false [] <| .op 22 false false [] <| .op 23 false false [] <| .op 24 false false [] <| .op 25 false false [] <| .op 26 false false [] <| .op 27 false false [] <| .op 28 false false [] <| .op 29 false false [] <| .op 30 false false [] <| .op 31 false false [] <| .op 32 false false [] <| .op 33 false false [] <| .op 34 false false [] <| .op 35 false false [] <| .op 36 false false [] <| .op 37 false false [] <| .op 38 false false [] <| .nil) mixed (by kernel_rfl) ?_
            simp -dsimp (maxSteps := 2000000) (disch := first | omega | (simp only [qZ] <;> omega) | fail) only [push_cast, ↓qP, ↓reduceIte, seval, ha.rdc, ha.fz]
            repeat' (first | refine qS ?_ | refine qB ?_ | refine qT rfl ?_ | refine qF rfl ?_ | ((first | refine qR rfl ?_ | refine qK ?_ | refine qE ?_ | refine qW ?_ | refine qM ?_); try simp -dsimp (maxSteps := 2000000) (disch := first | omega | (simp only [qZ] <;> omega) | fail) only [push_cast, ↓qP, ↓reduceIte, seval, ha.rdc, ha.fz]) | ((refine gsel.mk (fun hg => ?_) (fun hg => ?_)) <;> try simp -dsimp (maxSteps := 2000000) (disch := first | omega | (simp only [qZ] <;> omega) | fail) only [push_cast, ↓qP, ↓reduceIte, seval, ha.rdc, ha.fz, *]) | refine Wp.cond rfl (fun hg => ?_) (fun hg => ?_) | (refine qA ?_ ?_; (first | omega | (simp only [qL]; omega) | (simp only [qD] at *; omega))))
            all_goals
              have hr1 := hrr.out
              have e125 : ∀ c : UInt8, (c == 125) = ((c.toNat : Int) == 125) := fun c => (u8_eq' c 125).symm
              first
              | (rw [if_pos (by rw [e125]; simp_all <;> (intros; omega))] at hr1
                 refine CallV.of isCall_50 (fail3 ha.drew 3) ?_
                 rintro _ w9 ⟨rfl, h9, k9⟩
                 refine Sm.out ?_
                 repeat (first | refine qS ?_ | refine qB ?_ | refine qT rfl ?_ | refine qF rfl ?_ | ((first | refine qR rfl ?_ | refine qK ?_ | refine qE ?_ | refine qW ?_ | refine qM ?_); try simp -dsimp (maxSteps := 2000000) (disch := first | omega | (simp only [qZ] <;> omega) | fail) only [push_cast, ↓qP, ↓reduceIte, seval]) | (refine qA ?_ ?_; (first | omega | (simp only [qL]; omega) | (simp only [qD] at *; omega))))
                 rw [hr1]
                 exact Ret.mk ⟨rfl, h9, ka.drew.trans k9⟩)
              | (rw [if_neg (by rw [e125]; simp_all <;> (intros; omega))] at hr1
                 rw [hr1]
                 exact Ret.mk ⟨rfl, ha.drew.set 1 (.int .i64 ((s2.i : Int) + 1)), ka.drew.setCell (fun _ => rfl) _⟩)
        · have hcm : (decide ((s1.i : Int) < (l.length : Int)) && byteAt l s1.i == 44) = false := by
            rcases Nat.lt_or_ge s1.i l.length with h6 | h6
            · have : byteAt l s1.i ≠ 44 := fun e => hc ⟨h6, e⟩
              simp only [Bool.and_eq_false_iff]; right; simpa using this
            · simp only [Bool.and_eq_false_iff]; left; exact decide_eq_false (by omega)
          simp only [hcm, Bool.false_eq_true, ↓reduceIte] at hrr
          have hc2 : s1.i < l.length → (((byteAt l s1.i).toNat : Int) == 44) = false := fun h6 => by
            rw [show (44 : Int) = ((44 : UInt8).toNat : Int) from rfl, u8_eq']
            simpa using fun e => hc ⟨h6, e⟩
          rcases Nat.lt_or_ge s1.i l.length with h6 | h6
          · have c1' : decide ((s1.i : Int) < (l.length : Int)) = true := decide_eq_true (by omega)
            have c2' := hc2 h6
            clear hc2 hc hcm
            refine Wp.draw [0, 1, 3, 7, 0, 16, 48, 112, 240, 511, 1023, 2047, 4095, 8191, 16383, 2047, 34815, 100351, 231423, 524287, 1048575, 2097151] [] (.op 0 false false [] <| .op 1 false false [] <| .op 2 false false [] <| .op 3 false false [] <| .op 4 false false [] <| .op 5 false false [] <| .op 6 false false [] <| .op 7 false false [] <| .op 8 false false [] <| .op 9 false false [] <| .op 10 false false [] <| .op 11 false false [] <| .op 12 false false [] <| .op 13 false false [] <| .op 14 false false [] <| .op 15 false false [] <| .op 16 false false [] <| .op 17 false false [] <| .op 18 false false [] <| .op 19 false false [] <| .op 20 false false [] <| .op 21 false false [] <| .nil) mixed (by kernel_rfl) ?_
            simp -dsimp (maxSteps := 2000000) (disch := first | omega | (simp only [qZ] <;> omega) | fail) only [push_cast, ↓qP, ↓reduceIte, seval, h5.rdc, c1', c2']
            refine ⟨by omega, ?_⟩
            refine Sm.out ?_
            repeat (first | refine qS ?_ | refine qB ?_ | refine qT rfl ?_ | refine qF rfl ?_ | ((first | refine qR rfl ?_ | refine qK ?_ | refine qE ?_ | refine qW ?_ | refine qM ?_); try simp -dsimp (maxSteps := 2000000) (disch := first | omega | (simp only [qZ] <;> omega) | fail) only [push_cast, ↓qP, ↓reduceIte, seval]) | (refine qA ?_ ?_; (first | omega | (simp only [qL]; omega) | (simp only [qD] at *; omega))))
            have ha := h5.drew
            have ka := (k4.trans k5).drew
            have hlta := ha.lt
            replace hrr : Hide _ := ⟨hrr⟩
            refine Wp.draw [0, 1, 3, 7, 0, 16, 48, 112, 240, 511, 1023, 2047, 4095, 8191, 16383, 2047, 34815, 100351, 231423, 524287, 1048575, 2097151, 4194303, 8388607, 16777215, 33554431, 67108863, 134217727, 268435455, 536870911, 1073741823, 2147483647, 4294967295, 8589934591, 17179869183, 17179869183, 68719476735, 137438953471, 274877906943] [] (.op 0 false false [] <| .op 1 false false [] <| .op 2 false false [] <| .op 3 false false [] <| .op 4 false false [] <| .op 5 false false [] <| .op 6 false false [] <| .op 7 false false [] <| .op 8 false false [] <| .op 9 false false [] <| .op 10 false false [] <| .op 11 false false [] <| .op 12 false false [] <| .op 13 false false [] <| .op 14 false false [] <| .op 15 false false [] <| .op 16 false false [] <| .op 17 false false [] <| .op 18 false false [] <| .op 19 false false [] <| .op 20 false false [] <| .op 21 false false [] <| .op 22 false false [] <| .op 23 false false [] <| .op 24 false false [] <| .op 25 false false [] <| .op 26 false false [] <| .op 27 false false [] <| .op 28 false false [] <| .op 29 false false [] <| .op 30 false false [] <| .op 31 false false [] <| .op 32 false false [] <| .op 33 false false [] <| .op 34 false false [] <| .op 35 false false [] <| .op 36 false false [] <| .op 37 false false [] <| .op 38 false false [] <| .nil) mixed (by kernel_rfl) ?_
            simp -dsimp (maxSteps := 2000000) (disch := first | omega | (simp only [qZ] <;> omega) | fail) only [push_cast, ↓qP, ↓reduceIte, seval, ha.rdc, ha.fz]
            repeat' (first | refine qS ?_ | refine qB ?_ | refine qT rfl ?_ | refine qF rfl ?_ | ((first | refine qR rfl ?_ | refine qK ?_ | refine qE ?_ | refine qW ?_ | refine qM ?_); try simp -dsimp (maxSteps := 2000000) (disch := first | omega | (simp only [qZ] <;> omega) | fail) only [push_cast, ↓qP, ↓reduceIte, seval, ha.rdc, ha.fz]) | ((refine gsel.mk (fun hg => ?_) (fun hg => ?_)) <;> try simp -dsimp (maxSteps := 2000000) (disch := first | omega | (simp only [qZ] <;> omega) | fail) only [push_cast, ↓qP, ↓reduceIte, seval, ha.rdc, ha.fz, *]) | refine Wp.cond rfl (fun hg => ?_) (fun hg => ?_) | (refine qA ?_ ?_; (first | omega | (simp only [qL]; omega) | (simp only [qD] at *; omega))))
            all_goals
              have hr1 := hrr.out
              have e125 : ∀ c : UInt8, (c == 125) = ((c.toNat : Int) == 125) := fun c => (u8_eq' c 125).symm
              first
              | (rw [if_pos (by rw [e125]; simp_all <;> (intros; omega))] at hr1
                 refine CallV.of isCall_50 (fail3 ha.drew 3) ?_
                 rintro _ w9 ⟨rfl, h9, k9⟩
                 refine Sm.out ?_
                 repeat (first | refine qS ?_ | refine qB ?_ | refine qT rfl ?_ | refine qF rfl ?_ | ((first | refine qR rfl ?_ | refine qK ?_ | refine qE ?_ | refine qW ?_ | refine qM ?_); try simp -dsimp (maxSteps := 2000000) (disch := first | omega | (simp only [qZ] <;> omega) | fail) only [push_cast, ↓qP, ↓reduceIte, seval]) | (refine qA ?_ ?_; (first | omega | (simp only [qL]; omega) | (simp only [qD] at *; omega))))
                 rw [hr1]
                 exact Ret.mk ⟨rfl, h9, ka.drew.trans k9⟩)
              | (rw [if_neg (by rw [e125]; simp_all <;> (intros; omega))] at hr1
                 rw [hr1]
                 exact Ret.mk ⟨rfl, ha.drew.set 1 (.int .i64 ((s1.i : Int) + 1)), ka.drew.setCell (fun _ => rfl) _⟩)
          · have c1' : decide ((s1.i : Int) < (l.length : Int)) = false := decide_eq_false (by omega)
            clear hc2 hc hcm
            refine Wp.draw [0, 1, 3, 7, 0, 16, 48, 112, 240, 511, 1023, 2047, 4095, 8191, 16383, 2047, 34815, 100351, 231423, 524287, 1048575, 2097151] [] (.op 0 false false [] <| .op 1 false false [] <| .op 2 false false [] <| .op 3 false false [] <| .op 4 false false [] <| .op 5 false false [] <| .op 6 false false [] <| .op 7 false false [] <| .op 8 false false [] <| .op 9 false false [] <| .op 10 false false [] <| .op 11 false false [] <| .op 12 false false [] <| .op 13 false false [] <| .op 14 false false [] <| .op 15 false false [] <| .op 16 false false [] <| .op 17 false false [] <| .op 18 false false [] <| .op 19 false false [] <| .op 20 false false [] <| .op 21 false false [] <| .nil) mixed (by kernel_rfl) ?_
            simp -dsimp (maxSteps := 2000000) (disch := first | omega | (simp only [qZ] <;> omega) | fail) only [push_cast, ↓qP, ↓reduceIte, seval, h5.rdc, c1']
            refine Sm.out ?_
            repeat (first | refine qS ?_ | refine qB ?_ | refine qT rfl ?_ | refine qF rfl ?_ | ((first | refine qR rfl ?_ | refine qK ?_ | refine qE ?_ | refine qW ?_ | refine qM ?_); try simp -dsimp (maxSteps := 2000000) (disch := first | omega | (simp only [qZ] <;> omega) | fail) only [push_cast, ↓qP, ↓reduceIte, seval]) | (refine qA ?_ ?_; (first | omega | (simp only [qL]; omega) | (simp only [qD] at *; omega))))
            have ha := h5.drew
            have ka := (k4.trans k5).drew
            have hlta := ha.lt
            replace hrr : Hide _ := ⟨hrr⟩
            refine Wp.draw [0, 1, 3, 7, 0, 16, 48, 112, 240, 511, 1023, 2047, 4095, 8191, 16383, 2047, 34815, 100351, 231423, 524287, 1048575, 2097151, 4194303, 8388607, 16777215, 33554431, 67108863, 134217727, 268435455, 536870911, 1073741823, 2147483647, 4294967295, 8589934591, 17179869183, 17179869183, 68719476735, 137438953471, 274877906943] [] (.op 0 false false [] <| .op 1 false false [] <| .op 2 false false [] <| .op 3 false false [] <| .op 4 false false [] <| .op 5 false false [] <| .op 6 false false [] <| .op 7 false false [] <| .op 8 false false [] <| .op 9 false false [] <| .op 10 false false [] <| .op 11 false false [] <| .op 12 false false [] <| .op 13 false false [] <| .op 14 false false [] <| .op 15 false false [] <| .op 16 false false [] <| .op 17 false false [] <| .op 18 false false [] <| .op 19 false false [] <| .op 20 false false [] <| .op 21 false false [] <| .op 22 false false [] <| .op 23 false false [] <| .op 24 false false [] <| .op 25 false false [] <| .op 26 false false [] <| .op 27 false false [] <| .op 28 false false [] <| .op 29 false false [] <| .op 30 false false [] <| .op 31 false false [] <| .op 32 false false [] <| .op 33 false false [] <| .op 34 false false [] <| .op 35 false false [] <| .op 36 false false [] <| .op 37 false false [] <| .op 38 false false [] <| .nil) mixed (by kernel_rfl) ?_
            simp -dsimp (maxSteps := 2000000) (disch := first | omega | (simp only [qZ] <;> omega) | fail) only [push_cast, ↓qP, ↓reduceIte, seval, ha.rdc, ha.fz]
            repeat' (first | refine qS ?_ | refine qB ?_ | refine qT rfl ?_ | refine qF rfl ?_ | ((first | refine qR rfl ?_ | refine qK ?_ | refine qE ?_ | refine qW ?_ | refine qM ?_); try simp -dsimp (maxSteps := 2000000) (disch := first | omega | (simp only [qZ] <;> omega) | fail) only [push_cast, ↓qP, ↓reduceIte, seval, ha.rdc, ha.fz]) | ((refine gsel.mk (fun hg => ?_) (fun hg => ?_)) <;> try simp -dsimp (maxSteps := 2000000) (disch := first | omega | (simp only [qZ] <;> omega) | fail) only [push_cast, ↓qP, ↓reduceIte, seval, ha.rdc, ha.fz, *]) | refine Wp.cond rfl (fun hg => ?_) (fun hg => ?_) | (refine qA ?_ ?_; (first | omega | (simp only [qL]; omega) | (simp only [qD] at *; omega))))
            all_goals
              have hr1 := hrr.out
              have e125 : ∀ c : UInt8, (c == 125) = ((c.toNat : Int) == 125) := fun c => (u8_eq' c 125).symm
              first
              | (rw [if_pos (by rw [e125]; simp_all <;> (intros; omega))] at hr1
                 refine CallV.of isCall_50 (fail3 ha.drew 3) ?_
                 rintro _ w9 ⟨rfl, h9, k9⟩
                 refine Sm.out ?_
                 repeat (first | refine qS ?_ | refine qB ?_ | refine qT rfl ?_ | refine qF rfl ?_ | ((first | refine qR rfl ?_ | refine qK ?_ | refine qE ?_ | refine qW ?_ | refine qM ?_); try simp -dsimp (maxSteps := 2000000) (disch := first | omega | (simp only [qZ] <;> omega) | fail) only [push_cast, ↓qP, ↓reduceIte, seval]) | (refine qA ?_ ?_; (first | omega | (simp only [qL]; omega) | (simp only [qD] at *; omega))))
                 rw [hr1]
                 exact Ret.mk ⟨rfl, h9, ka.drew.trans k9⟩)
              | (rw [if_neg (by rw [e125]; simp_all <;> (intros; omega))] at hr1
                 rw [hr1]
                 exact Ret.mk ⟨rfl, ha.drew.set 1 (.int .i64 ((s1.i : Int) + 1)), ka.drew.setCell (fun _ => rfl) _⟩)
      · rw [if_pos (by
          simp only [Bool.or_eq_true, decide_eq_true_eq, Bool.not_eq_true']
          rcases Nat.lt_or_ge (s.i + 1) l.length with h5 | h5
          · right; simpa using fun h6 => hgo ⟨h5, h6⟩
          · left; omega)] at hrr
        rw [hrr]
        replace hgo : Hide _ := ⟨hgo⟩
        have hix : ((s.i : Int) + 1).toNat = s.i + 1 := by omega
        clear hrr
        refine Wp.draw [0, 1, 3, 7, 15, 0, 32, 96, 224, 480, 1023, 2047, 4095, 8191, 16383, 32767, 4095, 69631, 200703, 462847, 987135, 2097151, 4194303, 8388607, 16777215, 33554431, 67108863, 134217727, 268435455, 33554431, 570425343, 1644167167, 3791650815, 8086618111, 17179869183, 34359738367, 68719476735] [] (.op 0 false false [] <| .op 1 false false [] <| .op 2 false false [] <| .op 3 false false [] <| .op 4 false false [] <| .op 5 false false [] <| .op 6 false false [] <| .op 7 false false [] <| .op 8 false false [] <| .op 9 false false [] <| .op 10 false false [] <| .op 11 false false [] <| .op 12 false false [] <| .op 13 false false [] <| .op 14 false false [] <| .op 15 false false [] <| .op 16 false false [] <| .op 17 false false [] <| .op 18 false false [] <| .op 19 false false [] <| .op 20 false false [] <| .op 21 false false [] <| .op 22 false false [] <| .op 23 false false [] <| .op 24 false false [] <| .op 25 false false [] <| .op 26 false false [] <| .op 27 false false [] <| .op 28 false false [] <| .op 29 false false [] <| .op 30 false false [] <| .op 31 false false [] <| .op 32 false false [] <| .op 33 false false [] <| .op 34 false false [] <| .op 35 false false [] <| .op 36 false false [] <| .nil) mixed (by kernel_rfl) ?_
        simp -dsimp (maxSteps := 2000000) (disch := first | omega | (simp only [qZ] <;> omega) | fail) only [push_cast, ↓qP, ↓reduceIte, seval, h2.rdc, hix]
        repeat' (first | refine qS ?_ | refine qB ?_ | refine qT rfl ?_ | refine qF rfl ?_ | ((first | refine qR rfl ?_ | refine qK ?_ | refine qE ?_ | refine qW ?_ | refine qM ?_); try simp -dsimp (maxSteps := 2000000) (disch := first | omega | (simp only [qZ] <;> omega) | fail) only [push_cast, ↓qP, ↓reduceIte, seval, h2.rdc, hix]) | ((refine gsel.mk (fun hg => ?_) (fun hg => ?_)) <;> try simp -dsimp (maxSteps := 2000000) (disch := first | omega | (simp only [qZ] <;> omega) | fail) only [push_cast, ↓qP, ↓reduceIte, seval, h2.rdc, hix, *]) | refine Wp.cond rfl (fun hg => ?_) (fun hg => ?_) | (refine qA ?_ ?_; (first | omega | (simp only [qL]; omega) | (simp only [qD] at *; omega))))
        all_goals first
          | exact Ret.mk ⟨rfl, h2.drew, k2.drew⟩
          | (exfalso; have hgo' := hgo.out; simp only [decide_eq_true_eq, decide_eq_false_iff_not] at *; exact hgo' ⟨by omega, (digs_iff _ _ _).2 ⟨by show 48 ≤ (l.getD (s.i + 1) 0).toNat; omega, by show (l.getD (s.i + 1) 0).toNat ≤ 57; omega⟩⟩)
    · have n123 : (((byteAt l s.i).toNat : Int) == 123) = false := by rw [show (123 : Int) = ((123 : UInt8).toNat : Int) from rfl, u8_eq']; simpa using c123
      have hrr : repeat3 l s = ((0, 0, false), s) := by simp only [repeat3, hm, Bool.not_true, Bool.false_eq_true, ↓reduceIte, beq_iff_eq, c42, c43, c63, c123]
      rw [hrr]
      refine Sm.out ?_
      repeat (first | refine qS ?_ | refine qB ?_ | refine qT rfl ?_ | refine qF rfl ?_ | ((first | refine qR rfl ?_ | refine qK ?_ | refine qE ?_ | refine qW ?_ | refine qM ?_); try simp -dsimp (maxSteps := 2000000) (disch := first | omega | (simp only [qZ] <;> omega) | fail) only [push_cast, ↓qP, ↓reduceIte, seval, n42, n43, n63, n123, h2.rdc]) | (refine qA ?_ ?_; (first | omega | (simp only [qL]; omega) | (simp only [qD] at *; omega))))
      exact Ret.mk ⟨rfl, h2, k2⟩
  · refine Sm.out ?_
    repeat (first | refine qS ?_ | refine qB ?_ | refine qT rfl ?_ | refine qF rfl ?_ | ((first | refine qR rfl ?_ | refine qK ?_ | refine qE ?_ | refine qW ?_ | refine qM ?_); try simp -dsimp (maxSteps := 2000000) (disch := first | omega | (simp only [qZ] <;> omega) | fail) only [push_cast, ↓qP, ↓reduceIte, seval, hm]) | (refine qA ?_ ?_; (first | omega | (simp only [qL]; omega) | (simp only [qD] at *; omega))))
    have hrr : repeat3 l s = ((0, 0, false), s) := by simp [repeat3, hm]
    rw [hrr]
    exact Ret.mk ⟨rfl, h.drew, (Kp.refl (· = a) w).drew⟩
end
end Go.Proofs.Ytddichibegppjaa
