/- The reference's reader of expressions: all bytes. -/
import Derived.Test.YtddichibegppjaaZ8180551
import Derived.Test.YtddichibegppjaaVs
import Derived.Test.YtddichibegppjaaP3
import Derived.Test.YtddichibegppjaaP4
import Derived.Test.YtddichibegppjaaVo
import Derived.Test.YtddichibegppjaaP7
import Derived.Test.YtddichibegppjaaP6
import Derived.Test.YtddichibegppjaaP9
set_option linter.unusedSimpArgs false
set_option linter.unusedVariables false
set_option maxRecDepth 100000
set_option maxHeartbeats 8000000
attribute [local irreducible] Go.VC.OpV Go.VC.CallV Go.VC.Wp Go.VC.post
namespace Go.Proofs.Ytddichibegppjaa
open Go Go.VC

def by8s (l : List UInt8) : List Value := l.map by8
theorem by8s_len (l : List UInt8) : (by8s l).length = l.length := by simp [by8s]
theorem by8s_append (a b : List UInt8) : by8s (a ++ b) = by8s a ++ by8s b := by simp [by8s]
theorem by8s_read {w : World} {g n cap : Nat} {l : List UInt8} (h : Own w 5 1 (some ⟨g, 0, none⟩) n cap (by8s l)) (hn : n = l.length) : ∀ j (hj : j < l.length), rdc w g (0 + j) = some (by8 l[j]) := by
  intro j hj
  rw [Nat.zero_add, h.rdc j (by omega), by8s, List.getElem?_map, List.getElem?_eq_getElem hj]; rfl
theorem by8s_str {w : World} {A : Option Addr} {n cap : Nat} {l : List UInt8} (h : Own w 5 1 A n cap (by8s l)) (hn : n = l.length) : l = [] ∨ ∃ b i, A = some ⟨b, i, none⟩ ∧ ∀ j (hj : j < l.length), rdc w b (i + j) = some (by8 l[j]) := by
  rcases Nat.eq_zero_or_pos n with h0 | h0
  · left; exact List.eq_nil_of_length_eq_zero (by omega)
  · obtain ⟨g, rfl, _⟩ := h.some h0
    exact .inr ⟨g, 0, rfl, by8s_read h hn⟩

theorem all_take (k : Nat) (hk : k < 256) : allBytes.take (k + 1) = allBytes.take k ++ [UInt8.ofNat k] := by
  have hl : allBytes.length = 256 := by simp [allBytes]
  rw [List.take_succ_eq_append_getElem (by omega)]
  simp [allBytes]

theorem all3_any (w : World) : Calls Try.prog 93 #[] w fun e w' => e = .returned (.string (B allBytes)) ∧ Kp (fun _ => False) w w' := by
  refine enter (n := 14) (args := []) Try.func93 rfl rfl rfl (by simp) ?_
  repeat (first | refine qS ?_ | refine qB ?_ | refine qT rfl ?_ | refine qF rfl ?_ | ((first | refine qR rfl ?_ | refine qK ?_ | refine qE ?_ | refine qW ?_ | refine qM ?_); try simp -dsimp (maxSteps := 2000000) (disch := first | omega | (simp only [qZ] <;> omega) | fail) only [push_cast, ↓qP, ↓reduceIte, seval]) | (refine qA ?_ ?_; (first | omega | (simp only [qL]; omega) | (simp only [qD] at *; omega))))
  refine Wp.loop (α := Nat) (fun k F w2 => ∃ A cap, F 1 = .slice A k cap ∧ F 2 = .int .i64 k ∧ k ≤ 256 ∧ Own w2 5 1 A k cap (by8s (allBytes.take k)) ∧ (∀ g, bk A = some g → w.heap.size ≤ g) ∧ Kp (fun _ => False) w w2) (fun k => 256 - k) 0
    ⟨none, 0, rfl, rfl, by omega, Own.nil _ _ _, by simp [bk], Kp.refl _ _⟩ ?_
  rintro k F w2 ⟨A, cap, f1, f2, hk, hown, hnew, hkp⟩
  by_cases hlt : k < 256
  · have c1 : decide ((k : Int) < 256) = true := decide_eq_true (by omega)
    repeat (first | refine qS ?_ | refine qB ?_ | refine qT rfl ?_ | refine qF rfl ?_ | ((first | refine qR rfl ?_ | refine qK ?_ | refine qE ?_ | refine qW ?_ | refine qM ?_); try simp -dsimp (maxSteps := 2000000) (disch := first | omega | (simp only [qZ] <;> omega) | fail) only [push_cast, ↓qP, ↓reduceIte, seval, f1, f2, c1]) | (refine qA ?_ ?_; (first | omega | (simp only [qL]; omega) | (simp only [qD] at *; omega))))
    refine V_append (m := 1) _ _ _ rfl mk_63 rfl (hown.alloc _) rfl [.int .u8 k] ?r rfl (by omega) (by omega) ?k
    case r => simp -dsimp (maxSteps := 2000000) (disch := first | omega | (simp only [qZ] <;> omega) | fail) only [push_cast, ↓qP, ↓reduceIte, seval]
    case k =>
      intro A' cap' w3 hown' hgrow hat
      refine Sm.out ?_
      repeat (first | refine qS ?_ | refine qB ?_ | refine qT rfl ?_ | refine qF rfl ?_ | ((first | refine qR rfl ?_ | refine qK ?_ | refine qE ?_ | refine qW ?_ | refine qM ?_); try simp -dsimp (maxSteps := 2000000) (disch := first | omega | (simp only [qZ] <;> omega) | fail) only [push_cast, ↓qP, ↓reduceIte, seval, f1, f2]) | (refine qA ?_ ?_; (first | omega | (simp only [qL]; omega) | (simp only [qD] at *; omega))))
      refine Again.mk (k + 1) ⟨A', cap', ?_, ?_, by omega, ?_, ?_, (hkp.alloc _).grown hgrow (fun g hg hl => by have := hnew g hg; omega)⟩ (by omega)
      · simp -dsimp (maxSteps := 2000000) (disch := first | omega | (simp only [qZ] <;> omega) | fail) only [push_cast, ↓qP, ↓reduceIte, seval]
      · simp -dsimp (maxSteps := 2000000) (disch := first | omega | (simp only [qZ] <;> omega) | fail) only [push_cast, ↓qP, ↓reduceIte, seval]
      · rw [all_take k hlt, by8s_append]
        have : by8s [UInt8.ofNat k] = [.int .u8 k] := by simp [by8s, by8]; omega
        rw [this]; exact hown'
      · intro g hg
        rcases hat with h | h
        · exact hnew g (h ▸ hg)
        · rw [h] at hg; simp at hg; subst hg; have := hkp.size; simp; omega
  · have c1 : decide ((k : Int) < 256) = false := decide_eq_false (by omega)
    obtain rfl : k = 256 := by omega
    have hl : allBytes.length = 256 := by simp [allBytes]
    rw [List.take_of_length_le (by omega)] at hown
    repeat (first | refine qS ?_ | refine qB ?_ | refine qT rfl ?_ | refine qF rfl ?_ | ((first | refine qR rfl ?_ | refine qK ?_ | refine qE ?_ | refine qW ?_ | refine qM ?_); try simp -dsimp (maxSteps := 2000000) (disch := first | omega | (simp only [qZ] <;> omega) | fail) only [push_cast, ↓qP, ↓reduceIte, seval, f1, f2, c1]) | (refine qA ?_ ?_; (first | omega | (simp only [qL]; omega) | (simp only [qD] at *; omega))))
    refine V_str 63 9 _ rfl se_63 ik_5 isStr_9 allBytes rfl (by rw [hl]) (by8s_str hown (by rw [hl])) ?_
    refine Sm.out ?_
    repeat (first | refine qS ?_ | refine qB ?_ | refine qT rfl ?_ | refine qF rfl ?_ | ((first | refine qR rfl ?_ | refine qK ?_ | refine qE ?_ | refine qW ?_ | refine qM ?_); try simp -dsimp (maxSteps := 2000000) (disch := first | omega | (simp only [qZ] <;> omega) | fail) only [push_cast, ↓qP, ↓reduceIte, seval]) | (refine qA ?_ ?_; (first | omega | (simp only [qL]; omega) | (simp only [qD] at *; omega))))
    exact Ret.mk ⟨rfl, hkp⟩
end Go.Proofs.Ytddichibegppjaa

/- The reference's reader of expressions: items of sets. -/
namespace Go.Proofs.Ytddichibegppjaa
open Go Go.VC

def bools (set : List Bool) : List Value := set.map Value.bool
theorem h91 (c : UInt8) : ((c.toNat : Int) == 91) = (c == 91) := u8_eq' c 91
theorem h58 (c : UInt8) : ((c.toNat : Int) == 58) = (c == 58) := u8_eq' c 58
theorem h93 (c : UInt8) : ((c.toNat : Int) == 93) = (c == 93) := u8_eq' c 93
theorem eqb (c k : UInt8) : ((c.toNat : Int) == (k.toNat : Int)) = (c == k) := u8_eq' c k

section
variable {a g : Nat} {l : List UInt8} {s : S3} {w : World} {set : List Bool}

theorem item3_any (h : At3 w a l s) (hb : Blk w g 4 (bools set)) (hset : set.length = 256) (hl : l.length ≤ 1000000) (hi : s.i < l.length) :
    Calls Try.prog 101 #[.pointer (some ⟨a, 0, none⟩), .slice (some ⟨g, 0, none⟩) 256 256] w fun e w' =>
      e = .returned (.tuple #[by8 (item3 l s set).1.1, .bool (item3 l s set).1.2]) ∧ At3 w' a l (item3 l s set).2.2 ∧ Blk w' g 4 (bools (item3 l s set).2.1) ∧ Kp (fun b => b = a ∨ b = g) w w' := by
  have hlt := h.lt
  have hne : a ≠ g := h.ne hb (by decide)
  have hgl := hb.lt
  refine enter (n := 133) (args := [.pointer (some ⟨a, 0, none⟩), .slice (some ⟨g, 0, none⟩) 256 256]) Try.func101 rfl rfl rfl (by simp) ?_
  repeat (first | refine qS ?_ | refine qB ?_ | refine qT rfl ?_ | refine qF rfl ?_ | ((first | refine qR rfl ?_ | refine qK ?_ | refine qE ?_ | refine qW ?_ | refine qM ?_); try simp -dsimp (maxSteps := 2000000) (disch := first | omega | (simp only [qZ] <;> omega) | fail) only [push_cast, ↓qP, ↓reduceIte, seval]) | (refine qA ?_ ?_; (first | omega | (simp only [qL]; omega) | (simp only [qD] at *; omega))))
  refine CallV.of isCall_72 (peek3 h hi) ?_
  rintro _ _ ⟨rfl, rfl⟩
  refine Sm.out ?_
  repeat (first | refine qS ?_ | refine qB ?_ | refine qT rfl ?_ | refine qF rfl ?_ | ((first | refine qR rfl ?_ | refine qK ?_ | refine qE ?_ | refine qW ?_ | refine qM ?_); try simp -dsimp (maxSteps := 2000000) (disch := first | omega | (simp only [qZ] <;> omega) | fail) only [push_cast, ↓qP, ↓reduceIte, seval]) | (refine qA ?_ ?_; (first | omega | (simp only [qL]; omega) | (simp only [qD] at *; omega))))
  have h2 : At3 w.drew a l s := h.drew
  have hb2 : Blk w.drew g 4 (bools set) := hb.drew
  have k2 : Kp (fun b => b = a ∨ b = g) w w.drew := (Kp.refl _ w).drew
  have hlt2 := h2.lt
  have hgl2 := hb2.lt
  generalize w.drew = w2 at *
  by_cases hcl : byteAt l s.i = 91 ∧ s.i + 1 < l.length ∧ byteAt l (s.i + 1) = 58
  · obtain ⟨q1, q2, q3⟩ := hcl
    have e91 : (((byteAt l s.i).toNat : Int) == 91) = true := by rw [q1]; rfl
    have e58 : (((byteAt l (s.i + 1)).toNat : Int) == 58) = true := by rw [q3]; rfl
    have eln : decide ((s.i : Int) + 1 < (l.length : Int)) = true := decide_eq_true (by omega)
    have hix : ((s.i : Int) + 1).toNat = s.i + 1 := by omega
    have hir : item3 l s set = if clEnd l l.length (s.i + 2) + 1 ≥ l.length then ((0, false), set, s.fail 2) else
        if (in3 ((l.drop (s.i + 2)).take (clEnd l l.length (s.i + 2) - (s.i + 2))) 0).2 then ((0, false), clPut ((l.drop (s.i + 2)).take (clEnd l l.length (s.i + 2) - (s.i + 2))) set, { s with i := clEnd l l.length (s.i + 2) + 2 }) else ((0, false), set, s.fail 2) := by
      unfold item3
      rw [if_pos (by rw [q1, q3]; simp; omega)]
    replace hir : Hide _ := ⟨hir⟩
    refine Wp.draw [0, 1, 3, 7, 15, 31, 63, 127, 7, 263, 775, 1799, 3847, 8191, 16383, 32767, 65535, 131071, 262143, 524287, 65535, 1114111, 3211263, 7405567, 15794175, 33554431, 67108863, 134217727] [] (.op 0 false false [] <| .op 1 false false [] <| .op 2 false false [] <| .op 3 false false [] <| .op 4 false false [] <| .op 5 false false [] <| .op 6 false false [] <| .op 7 false false [] <| .op 8 false false [] <| .op 9 false false [] <| .op 10 false false [] <| .op 11 false false [] <| .op 12 false false [] <| .op 13 false false [] <| .op 14 false false [] <| .op 15 false false [] <| .op 16 false false [] <| .op 17 false false [] <| .op 18 false false [] <| .op 19 false false [] <| .op 20 false false [] <| .op 21 false false [] <| .op 22 false false [] <| .op 23 false false [] <| .op 24 false false [] <| .op 25 false false [] <| .op 26 false false [] <| .op 27 false false [] <| .nil) mixed (by kernel_rfl) ?_
    simp -dsimp (maxSteps := 2000000) (disch := first | omega | (simp only [qZ] <;> omega) | fail) only [push_cast, ↓qP, ↓reduceIte, seval, h2.rdc, e91, e58, eln, hix]
    refine ⟨by omega, ?_⟩
    refine Sm.out ?_
    repeat (first | refine qS ?_ | refine qB ?_ | refine qT rfl ?_ | refine qF rfl ?_ | ((first | refine qR rfl ?_ | refine qK ?_ | refine qE ?_ | refine qW ?_ | refine qM ?_); try simp -dsimp (maxSteps := 2000000) (disch := first | omega | (simp only [qZ] <;> omega) | fail) only [push_cast, ↓qP, ↓reduceIte, seval, h2.rdc]) | (refine qA ?_ ?_; (first | omega | (simp only [qL]; omega) | (simp only [qD] at *; omega))))
    have h3 := h2.drew
    have hb3 := hb2.drew
    have k3 := k2.drew
    have hlt3 := h3.lt
    have hgl3 := hb3.lt
    generalize w2.drew = w3 at *
    refine Wp.loop (α := Nat) (fun k F w4 => ∃ e : Nat, F 0 = .pointer (some ⟨a, 0, none⟩) ∧ F 1 = .slice (some ⟨g, 0, none⟩) 256 256 ∧ F 7 = .int .i64 e ∧ w3 = w4 ∧ Hide (e = s.i + 2 + k) ∧ e ≤ l.length + 1 ∧ k ≤ l.length ∧ Hide (clEnd l (l.length - k) e = clEnd l l.length (s.i + 2))) (fun k => l.length - k) 0
      ⟨s.i + 2, ?_, ?_, ?_, rfl, ⟨rfl⟩, by omega, by omega, ⟨rfl⟩⟩ ?_
    · simp -dsimp (maxSteps := 2000000) (disch := first | omega | (simp only [qZ] <;> omega) | fail) only [push_cast, ↓qP, ↓reduceIte, seval]
    · simp -dsimp (maxSteps := 2000000) (disch := first | omega | (simp only [qZ] <;> omega) | fail) only [push_cast, ↓qP, ↓reduceIte, seval]
    · simp -dsimp (maxSteps := 2000000) (disch := first | omega | (simp only [qZ] <;> omega) | fail) only [push_cast, ↓qP, ↓reduceIte, seval]
      congr 1
    rintro k F _ ⟨e, f0, f1, f7, rfl, hek, he, hk, hcle⟩
    have hix1 : ((e : Int) + 1).toNat = e + 1 := by omega
    by_cases hgo : e + 1 < l.length ∧ ¬ (byteAt l e = 58 ∧ byteAt l (e + 1) = 93)
    · replace hgo : Hide _ := ⟨hgo⟩
      have hel := hgo.out.1
      repeat' (first | refine qS ?_ | refine qB ?_ | refine qT rfl ?_ | refine qF rfl ?_ | ((first | refine qR rfl ?_ | refine qK ?_ | refine qE ?_ | refine qW ?_ | refine qM ?_); try simp -dsimp (maxSteps := 2000000) (disch := first | omega | (simp only [qZ] <;> omega) | fail) only [push_cast, ↓qP, ↓reduceIte, seval, f0, f1, f7, h3.rdc, hix1]) | ((refine gsel.mk (fun hg => ?_) (fun hg => ?_)) <;> try simp -dsimp (maxSteps := 2000000) (disch := first | omega | (simp only [qZ] <;> omega) | fail) only [push_cast, ↓qP, ↓reduceIte, seval, f0, f1, f7, h3.rdc, hix1, *]) | refine Wp.cond rfl (fun hg => ?_) (fun hg => ?_) | (refine qA ?_ ?_; (first | omega | (simp only [qL]; omega) | (simp only [qD] at *; omega))))
      all_goals first
        | (refine Again.mk (k + 1) ⟨e + 1, ?_, ?_, ?_, rfl, ⟨by have := hek.out; omega⟩, by omega, by have := hek.out; omega, ⟨?_⟩⟩ (by have := hek.out; omega)
           · simp -dsimp (maxSteps := 2000000) (disch := first | omega | (simp only [qZ] <;> omega) | fail) only [push_cast, ↓qP, ↓reduceIte, seval, f0]
           · simp -dsimp (maxSteps := 2000000) (disch := first | omega | (simp only [qZ] <;> omega) | fail) only [push_cast, ↓qP, ↓reduceIte, seval, f1]
           · simp -dsimp (maxSteps := 2000000) (disch := first | omega | (simp only [qZ] <;> omega) | fail) only [push_cast, ↓qP, ↓reduceIte, seval, f7]
           · rw [← hcle.out, show l.length - k = (l.length - (k + 1)) + 1 by have := hek.out; omega]
             have hh := hgo.out
             simp only [clEnd]
             rw [if_pos]
             simp only [Bool.and_eq_true, decide_eq_true_eq, Bool.not_eq_true', Bool.and_eq_false_iff]
             refine ⟨hh.1, ?_⟩
             by_cases h9 : byteAt l e = 58
             · right; simpa using fun h10 => hh.2 ⟨h9, h10⟩
             · left; simpa using h9)
        | (exfalso; have hh := hgo.out; clear hgo; simp only [h58, h93, beq_iff_eq, decide_eq_true_eq, decide_eq_false_iff_not, Bool.not_true, Bool.not_false, Bool.not_eq_false', Bool.not_eq_true'] at *; first | omega | exact hh.2 ⟨by assumption, by assumption⟩)
        | trace_state
    · have hce : clEnd l l.length (s.i + 2) = e := by
        rw [← hcle.out]
        rcases Nat.eq_zero_or_pos (l.length - k) with h9 | h9
        · rw [h9]; rfl
        · rw [show l.length - k = (l.length - k - 1) + 1 by omega]
          simp only [clEnd]
          rw [if_neg]
          simp only [Bool.and_eq_true, decide_eq_true_eq, Bool.not_eq_true', Bool.and_eq_false_iff, beq_eq_false_iff_ne]
          rintro ⟨h10, h11⟩
          exact hgo ⟨h10, fun ⟨h12, h13⟩ => by rcases h11 with h11 | h11 <;> contradiction⟩
      have hir' := hir.out
      rw [hce] at hir'
      clear hir hcle hce
      replace hgo : Hide _ := ⟨hgo⟩
      rcases Nat.lt_or_ge (e + 1) l.length with h9 | h9
      · have h9' : decide ((e : Int) + 1 ≥ (l.length : Int)) = false := decide_eq_false (by omega)
        rw [if_neg (by omega)] at hir'
        replace hir' : Hide _ := ⟨hir'⟩
        repeat' (first | refine qS ?_ | refine qB ?_ | refine qT rfl ?_ | refine qF rfl ?_ | ((first | refine qR rfl ?_ | refine qK ?_ | refine qE ?_ | refine qW ?_ | refine qM ?_); try simp -dsimp (maxSteps := 2000000) (disch := first | omega | (simp only [qZ] <;> omega) | fail) only [push_cast, ↓qP, ↓reduceIte, seval, f0, f1, f7, h3.rdc, hix1, h9']) | ((refine gsel.mk (fun hg => ?_) (fun hg => ?_)) <;> try simp -dsimp (maxSteps := 2000000) (disch := first | omega | (simp only [qZ] <;> omega) | fail) only [push_cast, ↓qP, ↓reduceIte, seval, f0, f1, f7, h3.rdc, hix1, h9', *]) | refine Wp.cond rfl (fun hg => ?_) (fun hg => ?_) | (refine qA ?_ ?_; (first | omega | (simp only [qL]; omega) | (simp only [qD] at *; omega))))
        all_goals first
          | (exfalso; have hh := hgo.out; clear hgo; simp only [h58, h93, beq_iff_eq, decide_eq_true_eq, decide_eq_false_iff_not, Bool.not_true, Bool.not_false, Bool.not_eq_false', Bool.not_eq_true', beq_eq_false_iff_ne] at *; first | omega | exact hh ⟨by omega, fun ⟨h12, h13⟩ => by contradiction⟩)
          | skip
        have hix2 : ((s.i : Int) + 2).toNat = s.i + 2 := by omega
        have hek' := hek.out
        refine Wp.draw [0, 1, 3, 7, 0, 16, 48, 112, 240, 0, 1023, 2047] [] (.op 0 false false [] <| .op 1 false false [] <| .op 2 false false [] <| .op 3 false false [] <| .op 4 false false [] <| .op 5 false false [] <| .op 6 false false [] <| .op 7 false false [] <| .op 8 false false [] <| .op 9 false false [] <| .op 10 false false [] <| .op 11 false false [] <| .nil) mixed (by kernel_rfl) ?_
        simp -dsimp (maxSteps := 2000000) (disch := first | omega | (simp only [qZ] <;> omega) | fail) only [push_cast, ↓qP, ↓reduceIte, seval, h3.rdc, f0, f1, f7, hix2]
        refine ⟨by omega, ?_⟩
        generalize hn : (l.drop (s.i + 2)).take (e - (s.i + 2)) = n at *
        refine Sm.out ?_
        repeat (first | refine qS ?_ | refine qB ?_ | refine qT rfl ?_ | refine qF rfl ?_ | ((first | refine qR rfl ?_ | refine qK ?_ | refine qE ?_ | refine qW ?_ | refine qM ?_); try simp -dsimp (maxSteps := 2000000) (disch := first | omega | (simp only [qZ] <;> omega) | fail) only [push_cast, ↓qP, ↓reduceIte, seval, f0, f1, f7, hn]) | (refine qA ?_ ?_; (first | omega | (simp only [qL]; omega) | (simp only [qD] at *; omega))))
        have hkp0 : Kp (fun b => b = a ∨ b = g) w w3.drew := k3.drew
        refine Wp.loop (α := Nat) (fun k F w4 => F 0 = .pointer (some ⟨a, 0, none⟩) ∧ F 1 = .slice (some ⟨g, 0, none⟩) 256 256 ∧ F 7 = .int .i64 e ∧ F 8 = .string (B n) ∧ F 9 = .int .i64 k ∧ k ≤ 256 ∧ At3 w4 a l s ∧ Blk w4 g 4 (bools (clK n set k)) ∧ Kp (fun b => b = a ∨ b = g) w w4 ∧ Hide (0 < k → (in3 n 0).2 = true)) (fun k => 256 - k) 0
          ⟨?_, ?_, ?_, ?_, ?_, by omega, h3.drew, by rw [clK_zero]; exact hb3.drew, hkp0, ⟨by omega⟩⟩ ?_
        · simp -dsimp (maxSteps := 2000000) (disch := first | omega | (simp only [qZ] <;> omega) | fail) only [push_cast, ↓qP, ↓reduceIte, seval, f0]
        · simp -dsimp (maxSteps := 2000000) (disch := first | omega | (simp only [qZ] <;> omega) | fail) only [push_cast, ↓qP, ↓reduceIte, seval, f1]
        · simp -dsimp (maxSteps := 2000000) (disch := first | omega | (simp only [qZ] <;> omega) | fail) only [push_cast, ↓qP, ↓reduceIte, seval, f7]
        · simp -dsimp (maxSteps := 2000000) (disch := first | omega | (simp only [qZ] <;> omega) | fail) only [push_cast, ↓qP, ↓reduceIte, seval]
        · simp -dsimp (maxSteps := 2000000) (disch := first | omega | (simp only [qZ] <;> omega) | fail) only [push_cast, ↓qP, ↓reduceIte, seval]
        rintro k F w4 ⟨f0, f1, f7, f8, f9, hk, h4, hb4, k4, hin⟩
        have hlt4 := h4.lt
        have hgl4 := hb4.lt
        rcases Nat.lt_or_ge k 256 with h10 | h10
        · have c1 : decide ((k : Int) < 256) = true := decide_eq_true (by omega)
          repeat (first | refine qS ?_ | refine qB ?_ | refine qT rfl ?_ | refine qF rfl ?_ | ((first | refine qR rfl ?_ | refine qK ?_ | refine qE ?_ | refine qW ?_ | refine qM ?_); try simp -dsimp (maxSteps := 2000000) (disch := first | omega | (simp only [qZ] <;> omega) | fail) only [push_cast, ↓qP, ↓reduceIte, seval, f0, f1, f7, f8, f9, c1]) | (refine qA ?_ ?_; (first | omega | (simp only [qL]; omega) | (simp only [qD] at *; omega))))
          refine CallV.of isCall_108 (in3_any n k w4) ?_
          rintro _ _ ⟨rfl, rfl⟩
          have hsn := in3_snd n k 0
          rcases Bool.eq_false_or_eq_true (in3 n k).2 with h11 | h11
          · rcases Bool.eq_false_or_eq_true (in3 n k).1 with h12 | h12
            · have hcell : rdc w4 g k = some (.bool ((clK n set k)[k]'(by rw [clK_len]; omega))) := by
                rw [hb4.rdc, bools, List.getElem?_map, List.getElem?_eq_getElem (by rw [clK_len]; omega)]; rfl
              refine Sm.out ?_
              repeat (first | refine qS ?_ | refine qB ?_ | refine qT rfl ?_ | refine qF rfl ?_ | ((first | refine qR rfl ?_ | refine qK ?_ | refine qE ?_ | refine qW ?_ | refine qM ?_); try simp -dsimp (maxSteps := 2000000) (disch := first | omega | (simp only [qZ] <;> omega) | fail) only [push_cast, ↓qP, ↓reduceIte, seval, f0, f1, f7, f8, f9, h11, h12, hcell, hb4.fz]) | (refine qA ?_ ?_; (first | omega | (simp only [qL]; omega) | (simp only [qD] at *; omega))))
              refine Again.mk (k + 1) ⟨?_, ?_, ?_, ?_, ?_, by omega, h4.far (p := ⟨g, k, none⟩) hne _, ?_, k4.setCell (fun _ => .inr rfl) _, ⟨fun _ => by rw [← hsn]; exact h11⟩⟩ (by omega)
              · simp -dsimp (maxSteps := 2000000) (disch := first | omega | (simp only [qZ] <;> omega) | fail) only [push_cast, ↓qP, ↓reduceIte, seval, f0]
              · simp -dsimp (maxSteps := 2000000) (disch := first | omega | (simp only [qZ] <;> omega) | fail) only [push_cast, ↓qP, ↓reduceIte, seval, f1]
              · simp -dsimp (maxSteps := 2000000) (disch := first | omega | (simp only [qZ] <;> omega) | fail) only [push_cast, ↓qP, ↓reduceIte, seval, f7]
              · simp -dsimp (maxSteps := 2000000) (disch := first | omega | (simp only [qZ] <;> omega) | fail) only [push_cast, ↓qP, ↓reduceIte, seval, f8]
              · simp -dsimp (maxSteps := 2000000) (disch := first | omega | (simp only [qZ] <;> omega) | fail) only [push_cast, ↓qP, ↓reduceIte, seval]
              · rw [clK_succ n set k (by omega), if_pos h12]
                have := hb4.set k (.bool true)
                rwa [bools, ← List.map_set] at this
            · refine Sm.out ?_
              repeat (first | refine qS ?_ | refine qB ?_ | refine qT rfl ?_ | refine qF rfl ?_ | ((first | refine qR rfl ?_ | refine qK ?_ | refine qE ?_ | refine qW ?_ | refine qM ?_); try simp -dsimp (maxSteps := 2000000) (disch := first | omega | (simp only [qZ] <;> omega) | fail) only [push_cast, ↓qP, ↓reduceIte, seval, f0, f1, f7, f8, f9, h11, h12]) | (refine qA ?_ ?_; (first | omega | (simp only [qL]; omega) | (simp only [qD] at *; omega))))
              refine Again.mk (k + 1) ⟨?_, ?_, ?_, ?_, ?_, by omega, h4, ?_, k4, ⟨fun _ => by rw [← hsn]; exact h11⟩⟩ (by omega)
              · simp -dsimp (maxSteps := 2000000) (disch := first | omega | (simp only [qZ] <;> omega) | fail) only [push_cast, ↓qP, ↓reduceIte, seval, f0]
              · simp -dsimp (maxSteps := 2000000) (disch := first | omega | (simp only [qZ] <;> omega) | fail) only [push_cast, ↓qP, ↓reduceIte, seval, f1]
              · simp -dsimp (maxSteps := 2000000) (disch := first | omega | (simp only [qZ] <;> omega) | fail) only [push_cast, ↓qP, ↓reduceIte, seval, f7]
              · simp -dsimp (maxSteps := 2000000) (disch := first | omega | (simp only [qZ] <;> omega) | fail) only [push_cast, ↓qP, ↓reduceIte, seval, f8]
              · simp -dsimp (maxSteps := 2000000) (disch := first | omega | (simp only [qZ] <;> omega) | fail) only [push_cast, ↓qP, ↓reduceIte, seval]
              · rw [clK_succ n set k (by omega), if_neg (by simp [h12])]; exact hb4
          · refine Sm.out ?_
            repeat (first | refine qS ?_ | refine qB ?_ | refine qT rfl ?_ | refine qF rfl ?_ | ((first | refine qR rfl ?_ | refine qK ?_ | refine qE ?_ | refine qW ?_ | refine qM ?_); try simp -dsimp (maxSteps := 2000000) (disch := first | omega | (simp only [qZ] <;> omega) | fail) only [push_cast, ↓qP, ↓reduceIte, seval, f0, f1, f7, f8, f9, h11]) | (refine qA ?_ ?_; (first | omega | (simp only [qL]; omega) | (simp only [qD] at *; omega))))
            refine CallV.of isCall_50 (fail3 h4 2) ?_
            rintro _ w5 ⟨rfl, h5, k5⟩
            refine Sm.out ?_
            repeat (first | refine qS ?_ | refine qB ?_ | refine qT rfl ?_ | refine qF rfl ?_ | ((first | refine qR rfl ?_ | refine qK ?_ | refine qE ?_ | refine qW ?_ | refine qM ?_); try simp -dsimp (maxSteps := 2000000) (disch := first | omega | (simp only [qZ] <;> omega) | fail) only [push_cast, ↓qP, ↓reduceIte, seval]) | (refine qA ?_ ?_; (first | omega | (simp only [qL]; omega) | (simp only [qD] at *; omega))))
            have hk0 : k = 0 := by
              rcases Nat.eq_zero_or_pos k with h13 | h13
              · exact h13
              · have := hin.out h13; rw [← hsn, h11] at this; cases this
            subst hk0
            rw [clK_zero] at hb4
            have hr := hir'.out
            rw [if_neg (by rw [← hsn, h11]; simp)] at hr
            rw [hr]
            exact Ret.mk ⟨rfl, h5, k5.Blk hb4 (fun e => hne e.symm), k4.trans (k5.mono (fun k _ e => .inl e))⟩
        · have c1 : decide ((k : Int) < 256) = false := decide_eq_false (by omega)
          obtain rfl : k = 256 := by omega
          have hin' := hin.out (by omega)
          have hr := hir'.out
          rw [if_pos hin'] at hr
          rw [← hset, clK_all] at hb4
          repeat (first | refine qS ?_ | refine qB ?_ | refine qT rfl ?_ | refine qF rfl ?_ | ((first | refine qR rfl ?_ | refine qK ?_ | refine qE ?_ | refine qW ?_ | refine qM ?_); try simp -dsimp (maxSteps := 2000000) (disch := first | omega | (simp only [qZ] <;> omega) | fail) only [push_cast, ↓qP, ↓reduceIte, seval, f0, f1, f7, f8, f9, c1, h4.rdc, h4.fz]) | (refine qA ?_ ?_; (first | omega | (simp only [qL]; omega) | (simp only [qD] at *; omega))))
          rw [hr]
          exact Ret.mk ⟨rfl, h4.set 1 (.int .i64 ((e : Int) + 2)), hb4.far (p := ⟨a, 1, none⟩) hne.symm _, k4.setCell (fun _ => .inl rfl) _⟩
      · have h9' : decide ((e : Int) + 1 ≥ (l.length : Int)) = true := decide_eq_true (by omega)
        rw [if_pos (by omega)] at hir'
        have h9'' : decide ((e : Int) + 1 < (l.length : Int)) = false := decide_eq_false (by omega)
        repeat (first | refine qS ?_ | refine qB ?_ | refine qT rfl ?_ | refine qF rfl ?_ | ((first | refine qR rfl ?_ | refine qK ?_ | refine qE ?_ | refine qW ?_ | refine qM ?_); try simp -dsimp (maxSteps := 2000000) (disch := first | omega | (simp only [qZ] <;> omega) | fail) only [push_cast, ↓qP, ↓reduceIte, seval, f0, f1, f7, h3.rdc, hix1, h9', h9'']) | (refine qA ?_ ?_; (first | omega | (simp only [qL]; omega) | (simp only [qD] at *; omega))))
        refine CallV.of isCall_50 (fail3 h3 2) ?_
        rintro _ w5 ⟨rfl, h5, k5⟩
        refine Sm.out ?_
        repeat (first | refine qS ?_ | refine qB ?_ | refine qT rfl ?_ | refine qF rfl ?_ | ((first | refine qR rfl ?_ | refine qK ?_ | refine qE ?_ | refine qW ?_ | refine qM ?_); try simp -dsimp (maxSteps := 2000000) (disch := first | omega | (simp only [qZ] <;> omega) | fail) only [push_cast, ↓qP, ↓reduceIte, seval]) | (refine qA ?_ ?_; (first | omega | (simp only [qL]; omega) | (simp only [qD] at *; omega))))
        rw [hir']
        exact Ret.mk ⟨rfl, h5, k5.Blk hb3 (fun e => hne e.symm), k3.trans (k5.mono (fun k _ e => .inl e))⟩
  · have hir : item3 l s set = if byteAt l s.i == 92 then (((escape3 l s).1, true), set, (escape3 l s).2) else ((byteAt l s.i, true), set, s.on) := by
      unfold item3
      rw [if_neg]
      simp only [Bool.and_eq_true, beq_iff_eq, decide_eq_true_eq]
      exact fun ⟨⟨q1, q2⟩, q3⟩ => hcl ⟨q1, q2, q3⟩
    have hix : ((s.i : Int) + 1).toNat = s.i + 1 := by omega
    by_cases c92 : byteAt l s.i = 92
    · have e1 : (((byteAt l s.i).toNat : Int) == 92) = true := by rw [c92]; rfl
      have e2 : (((byteAt l s.i).toNat : Int) == 91) = false := by rw [c92]; rfl
      rw [if_pos (by rw [c92]; rfl)] at hir
      rw [hir]
      clear hcl hir
      refine Wp.draw [0, 1, 3, 7, 15, 31, 63, 127, 7, 263, 775, 1799, 3847, 8191, 16383, 32767, 65535, 131071, 262143, 524287, 65535, 1114111, 3211263, 7405567, 15794175, 33554431, 67108863, 134217727] [] (.op 0 false false [] <| .op 1 false false [] <| .op 2 false false [] <| .op 3 false false [] <| .op 4 false false [] <| .op 5 false false [] <| .op 6 false false [] <| .op 7 false false [] <| .op 8 false false [] <| .op 9 false false [] <| .op 10 false false [] <| .op 11 false false [] <| .op 12 false false [] <| .op 13 false false [] <| .op 14 false false [] <| .op 15 false false [] <| .op 16 false false [] <| .op 17 false false [] <| .op 18 false false [] <| .op 19 false false [] <| .op 20 false false [] <| .op 21 false false [] <| .op 22 false false [] <| .op 23 false false [] <| .op 24 false false [] <| .op 25 false false [] <| .op 26 false false [] <| .op 27 false false [] <| .nil) mixed (by kernel_rfl) ?_
      simp -dsimp (maxSteps := 2000000) (disch := first | omega | (simp only [qZ] <;> omega) | fail) only [push_cast, ↓qP, ↓reduceIte, seval, h2.rdc, e2]
      refine Sm.out ?_
      repeat (first | refine qS ?_ | refine qB ?_ | refine qT rfl ?_ | refine qF rfl ?_ | ((first | refine qR rfl ?_ | refine qK ?_ | refine qE ?_ | refine qW ?_ | refine qM ?_); try simp -dsimp (maxSteps := 2000000) (disch := first | omega | (simp only [qZ] <;> omega) | fail) only [push_cast, ↓qP, ↓reduceIte, seval, e1]) | (refine qA ?_ ?_; (first | omega | (simp only [qL]; omega) | (simp only [qD] at *; omega))))
      refine CallV.of isCall_95 (escape3_any h2.drew hl (by omega)) ?_
      rintro _ w5 ⟨rfl, h5, k5⟩
      refine Sm.out ?_
      repeat (first | refine qS ?_ | refine qB ?_ | refine qT rfl ?_ | refine qF rfl ?_ | ((first | refine qR rfl ?_ | refine qK ?_ | refine qE ?_ | refine qW ?_ | refine qM ?_); try simp -dsimp (maxSteps := 2000000) (disch := first | omega | (simp only [qZ] <;> omega) | fail) only [push_cast, ↓qP, ↓reduceIte, seval]) | (refine qA ?_ ?_; (first | omega | (simp only [qL]; omega) | (simp only [qD] at *; omega))))
      refine Ret.mk ⟨rfl, h5, k5.Blk hb2.drew (fun e => hne e.symm), k2.drew.trans (k5.mono (fun k _ e => .inl e))⟩
    · have e1 : (((byteAt l s.i).toNat : Int) == 92) = false := by rw [show (92 : Int) = ((92 : UInt8).toNat : Int) from rfl, u8_eq']; simpa using c92
      rw [if_neg (by simpa using c92)] at hir
      rw [hir]
      clear hir
      replace hcl : Hide _ := ⟨hcl⟩
      refine Wp.draw [0, 1, 3, 7, 15, 31, 63, 127, 7, 263, 775, 1799, 3847, 8191, 16383, 32767, 65535, 131071, 262143, 524287, 65535, 1114111, 3211263, 7405567, 15794175, 33554431, 67108863, 134217727] [] (.op 0 false false [] <| .op 1 false false [] <| .op 2 false false [] <| .op 3 false false [] <| .op 4 false false [] <| .op 5 false false [] <| .op 6 false false [] <| .op 7 false false [] <| .op 8 false false [] <| .op 9 false false [] <| .op 10 false false [] <| .op 11 false false [] <| .op 12 false false [] <| .op 13 false false [] <| .op 14 false false [] <| .op 15 false false [] <| .op 16 false false [] <| .op 17 false false [] <| .op 18 false false [] <| .op 19 false false [] <| .op 20 false false [] <| .op 21 false false [] <| .op 22 false false [] <| .op 23 false false [] <| .op 24 false false [] <| .op 25 false false [] <| .op 26 false false [] <| .op 27 false false [] <| .nil) mixed (by kernel_rfl) ?_
      simp -dsimp (maxSteps := 2000000) (disch := first | omega | (simp only [qZ] <;> omega) | fail) only [push_cast, ↓qP, ↓reduceIte, seval, h2.rdc, hix, e1, h2.fz]
      repeat' (first | refine qS ?_ | refine qB ?_ | refine qT rfl ?_ | refine qF rfl ?_ | ((first | refine qR rfl ?_ | refine qK ?_ | refine qE ?_ | refine qW ?_ | refine qM ?_); try simp -dsimp (maxSteps := 2000000) (disch := first | omega | (simp only [qZ] <;> omega) | fail) only [push_cast, ↓qP, ↓reduceIte, seval, h2.rdc, hix, e1, h2.fz]) | ((refine gsel.mk (fun hg => ?_) (fun hg => ?_)) <;> try simp -dsimp (maxSteps := 2000000) (disch := first | omega | (simp only [qZ] <;> omega) | fail) only [push_cast, ↓qP, ↓reduceIte, seval, h2.rdc, hix, e1, h2.fz, *]) | refine Wp.cond rfl (fun hg => ?_) (fun hg => ?_) | (refine qA ?_ ?_; (first | omega | (simp only [qL]; omega) | (simp only [qD] at *; omega))))
      all_goals first
        | exact Ret.mk ⟨rfl, h2.drew.set 1 (.int .i64 ((s.i : Int) + 1)), hb2.drew.far (p := ⟨a, 1, none⟩) hne.symm _, k2.drew.setCell (fun _ => .inl rfl) _⟩
        | (exfalso; have hh := hcl.out; clear hcl; simp only [h91, h58, beq_iff_eq, decide_eq_true_eq, decide_eq_false_iff_not] at *; exact hh ⟨by assumption, by omega, by assumption⟩)
        | trace_state
end
end Go.Proofs.Ytddichibegppjaa

/- The reference's reader of expressions: sets. -/
namespace Go.Proofs.Ytddichibegppjaa
open Go Go.VC

theorem item3_more (l : List UInt8) (s : S3) (set : List Bool) (h : s.i < l.length) (hf : s.f = 0) (hr : (item3 l s set).2.2.f = 0) : s.i < (item3 l s set).2.2.i := by
  have hfail : ∀ k : Int, k ≠ 0 → ∀ t : S3, t.f = 0 → (t.fail k).f ≠ 0 := by
    intro k hk t ht; unfold S3.fail; rw [if_pos ht]; exact hk
  unfold item3 at hr ⊢
  split at hr
  · simp only [] at hr
    split at hr
    · exact absurd hr (hfail 2 (by decide) s hf)
    · split at hr
      · rename_i h1 h2 h3
        rw [if_pos h1]
        simp only []
        rw [if_neg h2, if_pos h3]
        have := clEnd_le l l.length (s.i + 2)
        show s.i < clEnd l l.length (s.i + 2) + 2
        omega
      · exact absurd hr (hfail 2 (by decide) s hf)
  · rename_i h1
    rw [if_neg h1]
    split at hr
    · rename_i h2
      rw [if_pos h2]
      simp only at hr ⊢
      unfold escape3 at hr ⊢
      split
      · split
        · have := oct3_i l 3 (s.i + 1) 0
          show s.i < (oct3 l 3 (s.i + 1) 0).2
          omega
        · show s.i < s.i + 2; omega
      · rename_i h3
        rw [if_neg h3] at hr
        exact absurd hr (hfail 4 (by decide) s.on hf)
    · rename_i h2
      rw [if_neg h2]
      show s.i < s.i + 1
      omega

/-- A range, put in up to a place. -/
def putK (set : List Bool) (lo k : Nat) : List Bool := set.zipIdx.map fun (b, j) => b || (decide (lo ≤ j) && decide (j < k))
theorem putK_len (set : List Bool) (lo k : Nat) : (putK set lo k).length = set.length := by simp [putK]
theorem putK_get (set : List Bool) (lo k j : Nat) : (putK set lo k)[j]? = set[j]?.map fun b => b || (decide (lo ≤ j) && decide (j < k)) := by
  simp [putK, List.getElem?_zipIdx]
  cases set[j]? <;> simp
theorem putK_zero (set : List Bool) (lo : Nat) : putK set lo lo = set := by
  refine List.ext_getElem? fun j => ?_
  rw [putK_get]
  cases set[j]? with
  | none => rfl
  | some b => simp; intros; omega
theorem putK_all (set : List Bool) (lo hi : Nat) : putK set lo (hi + 1) = putR set lo hi := by
  refine List.ext_getElem? fun j => ?_
  rw [putK_get]
  simp only [putR, List.getElem?_map, List.getElem?_zipIdx, Nat.zero_add]
  have : decide (j < hi + 1) = decide (j ≤ hi) := by rw [decide_eq_decide]; omega
  cases set[j]? <;> simp [this]
theorem putK_succ (set : List Bool) (lo k : Nat) (hk : k < set.length) (hl : lo ≤ k) : putK set lo (k + 1) = (putK set lo k).set k true := by
  refine List.ext_getElem? fun j => ?_
  rw [List.getElem?_set, putK_get, putK_get, putK_len]
  split
  · rename_i e
    subst e
    rw [List.getElem?_eq_getElem hk]
    simp [hk, hl]
  · rename_i e
    have : (decide (j < k + 1)) = decide (j < k) := by
      rw [decide_eq_decide]; omega
    rw [this]
theorem bools_set (set : List Bool) (k : Nat) (b : Bool) : (bools set).set k (.bool b) = bools (set.set k b) := by simp [bools, List.map_set]
theorem bools_get (set : List Bool) (k : Nat) (h : k < set.length) : (bools set)[k]? = some (.bool (set.getD k false)) := by
  simp [bools, List.getElem?_eq_getElem h, List.getD_eq_getElem?_getD]
/-- The first of them. -/
def bytesK (set : List Bool) (not : Bool) (n : Nat) : List UInt8 := (List.range n).filterMap fun k => if (set.getD k false != not) = true then some (UInt8.ofNat k) else none
theorem bytesK_succ (set : List Bool) (not : Bool) (n : Nat) : bytesK set not (n + 1) = if (set.getD n false != not) = true then bytesK set not n ++ [UInt8.ofNat n] else bytesK set not n := by
  unfold bytesK
  rw [List.range_succ, List.filterMap_append]
  by_cases h : (set.getD n false != not) = true
  · simp only [List.filterMap_cons, List.filterMap_nil, if_pos h]
  · simp only [List.filterMap_cons, List.filterMap_nil, if_neg h, List.append_nil]
theorem bytesK_len (set : List Bool) (not : Bool) (n : Nat) : (bytesK set not n).length ≤ n := by
  have := List.length_filterMap_le (fun k => if (set.getD k false != not) = true then some (UInt8.ofNat k) else none) (List.range n)
  simpa [bytesK] using this

/-- What a reader's part brings: a tree, and where it stands. -/
abbrev OutRe (w : World) (a : Nat) (l : List UInt8) (r : Option (Re × S3)) (e : Ending) (w' : World) : Prop :=
  ∃ t s' cs, r = some (t, s') ∧ e = .returned (.agg cs.toArray) ∧ IsRe w' (fun b => w.heap.size ≤ b ∧ b < w'.heap.size) t cs ∧ At3 w' a l s' ∧ Kp (· = a) w w'

theorem zRe_is (w : World) (D : Nat → Prop) : IsRe w D Re.zero zRe := by
  simp only [Re.zero, IsRe]
  exact ⟨none, 0, rfl, .inl trivial⟩
theorem set_is (w : World) (D : Nat → Prop) (op set : List UInt8) : IsRe w D (.node op set [] 0 0) [.string (B op), .string (B set), .slice none 0 0, .int .i64 0, .int .i64 0] := by
  simp only [IsRe]
  exact ⟨none, 0, rfl, .inl trivial⟩

section
variable {a g : Nat} {l : List UInt8} {s s' : S3} {w w1 w2 : World} {set : List Bool}

/-- Where a set's reader stands: its own place, the result, the set. -/
structure Br (w : World) (a : Nat) (l : List UInt8) (s : S3) (set : List Bool) (w' : World) : Prop where
  at_ : At3 w' a l s
  r : Blk w' w.heap.size 33 zRe
  g : Blk w' (w.heap.size + 1) 4 (bools set)
  kp : Kp (· = a) w w'
  lt : a < w.heap.size
  len : set.length = 256
theorem Br.keep (h : Br w a l s set w1) (h2 : At3 w2 a l s') (hk : Kp (· = a) w1 w2) : Br w a l s' set w2 :=
  ⟨h2, hk.Blk h.r (by have := h.lt; omega), hk.Blk h.g (by have := h.lt; omega), h.kp.trans hk, h.lt, h.len⟩
theorem Br.seta (h : Br w a l s set w1) {j : Nat} {v : Value} (h2 : At3 (w1.setCell ⟨a, j, none⟩ v) a l s') : Br w a l s' set (w1.setCell ⟨a, j, none⟩ v) :=
  h.keep h2 ((Kp.refl (· = a) w1).setCell (p := ⟨a, j, none⟩) (fun _ => rfl) _)
theorem Br.setg (h : Br w a l s set w1) (k : Nat) (b : Bool) : Br w a l s (set.set k b) (w1.setCell ⟨w.heap.size + 1, k, none⟩ (.bool b)) :=
  ⟨h.at_.far (p := ⟨w.heap.size + 1, k, none⟩) (Nat.ne_of_lt (Nat.lt_succ_of_lt h.lt)) _, h.r.far (p := ⟨w.heap.size + 1, k, none⟩) (Nat.ne_of_lt (Nat.lt_succ_self _)) _,
    by have := h.g.set k (.bool b); rwa [bools_set] at this, h.kp.setCell (p := ⟨w.heap.size + 1, k, none⟩) (fun h' => absurd h' (Nat.not_lt.2 (Nat.le_succ _))) _, h.lt, by simpa using h.len⟩
theorem Br.out (h : Br w a l s' set w1) {r : Option (Re × S3)} {t : Re} {cs : List Value} {F : Fr} (hr : r = some (t, s')) (hF : F 2 = .pointer (some ⟨w.heap.size, 0, none⟩)) (hl : cs.length = 5) (ht : ∀ w', IsRe w' (fun b => w.heap.size ≤ b ∧ b < w'.heap.size) t cs) :
    post Try.prog [.cell 2 33] (OutRe w a l r) .mk .ret F (w1.setCells w.heap.size 0 cs) := by
  have h2 := (h.r.setAll (vs := cs) hl).rdn
  rw [hl] at h2
  exact post_cell hF tk_33 h2 ⟨t, s', cs, hr, rfl, ht _, Blk.farCells (Nat.ne_of_lt h.lt) _ _ _ h.at_, Kp.setCells h.kp (fun h' => absurd h' (Nat.lt_irrefl _)) _ _⟩
theorem Br.item (h : Br w a l s set w1) {set' : List Bool} (h2 : At3 w2 a l s') (hg : Blk w2 (w.heap.size + 1) 4 (bools set')) (hl : set'.length = set.length) (hk : Kp (fun b => b = a ∨ b = w.heap.size + 1) w1 w2) : Br w a l s' set' w2 :=
  ⟨h2, hk.Blk h.r (by have := h.lt; omega), hg, h.kp.trans' hk (fun i hi e => by have := h.lt; omega), h.lt, hl.trans h.len⟩
theorem Br.item2 (h : Br w a l s set w1) {o : Obj} {g : Nat} (hg : g = w1.heap.size) (h2 : At3 w2 a l s') (hk : Kp (fun b => b = a ∨ b = g) (w1.alloc o) w2) : Br w a l s' set w2 := by
  have h1 := h.r.lt
  have h3 := h.g.lt
  exact ⟨h2, hk.Blk (h.r.alloc o) (by have := h.lt; omega), hk.Blk (h.g.alloc o) (by have := h.lt; omega), (h.kp.alloc o).trans' hk (fun i hi e => by have := h.lt; omega), h.lt, h.len⟩
theorem Br.grown (h : Br w a l s set w1) {o : Obj} {A : Option Addr} (hg : (w1.alloc o).grownBy w2 (bk A)) (hA : ∀ g, bk A = some g → w.heap.size + 1 < g) : Br w a l s set w2 := by
  have h1 := h.r.lt
  have h3 := h.g.lt
  have h4 := h.at_.lt
  have h5 := h.lt
  have hne : ∀ b, b ≤ w.heap.size + 1 → some b ≠ bk A := fun b hb e => by have := hA b e.symm; omega
  exact ⟨(h.at_.alloc o).keep (hg.block a (by simp; omega) (hne _ (by omega))), (h.r.alloc o).keep (hg.block _ (by simp; omega) (hne _ (by omega))), (h.g.alloc o).keep (hg.block _ (by simp; omega) (hne _ (by omega))),
    (h.kp.alloc o).grown hg (fun k hk hl => by have := hA k hk; omega), h.lt, h.len⟩
theorem Br.drew (h : Br w a l s set w1) : Br w a l s set w1.drew := h.keep h.at_.drew (Kp.refl _ w1).drew

theorem bracket3_any (h : At3 w a l s) (hl : l.length ≤ 1000000) (hi : s.i < l.length) :
    Calls Try.prog 94 #[.pointer (some ⟨a, 0, none⟩)] w (OutRe w a l (bracket3 l s)) := by
  have hlt := h.lt
  refine enter (n := 183) (args := [.pointer (some ⟨a, 0, none⟩)]) Try.func94 rfl rfl rfl (by simp) ?_
  refine Wp.seq (Wp.region rfl ?_)
  simp -dsimp (maxSteps := 2000000) (disch := first | omega | (simp only [qZ] <;> omega) | fail) only [push_cast, ↓qP, ↓reduceIte, Nat.reduceEqDiff, Nat.reduceAdd, Nat.reduceMul, Nat.reduceSub, Nat.reduceLeDiff, Int.reduceToNat, reduceCtorEq]
  refine Wp.seq (Wp.region rfl ?_)
  simp -dsimp (maxSteps := 2000000) (disch := first | omega | (simp only [qZ] <;> omega) | fail) only [push_cast, ↓qP, ↓reduceIte, Nat.reduceEqDiff, Nat.reduceAdd, Nat.reduceMul, Nat.reduceSub, Nat.reduceLeDiff, Int.reduceToNat, reduceCtorEq, h.rdc, h.fz]
  refine Wp.seq (Wp.region rfl ?_)
  simp -dsimp (maxSteps := 2000000) (disch := first | omega | (simp only [qZ] <;> omega) | fail) only [push_cast, ↓qP, ↓reduceIte, Nat.reduceEqDiff, Nat.reduceAdd, Nat.reduceMul, Nat.reduceSub, Nat.reduceLeDiff, Int.reduceToNat, reduceCtorEq]
  refine ⟨by omega, ?_⟩
  refine Wp.seq (Wp.region rfl ?_)
  simp -dsimp (maxSteps := 2000000) (disch := first | omega | (simp only [qZ] <;> omega) | fail) only [push_cast, ↓qP, ↓reduceIte, Nat.reduceEqDiff, Nat.reduceAdd, Nat.reduceMul, Nat.reduceSub, Nat.reduceLeDiff, Int.reduceToNat, reduceCtorEq]
  refine Wp.cut (fun F' w' => F' 0 = .pointer (some ⟨a, 0, none⟩) ∧ F' 2 = .pointer (some ⟨w.heap.size, 0, none⟩) ∧ F' 3 = .slice (some ⟨w.heap.size + 1, 0, none⟩) 256 256 ∧
    ∃ nt s2, F' 4 = .bool nt ∧ nt = (more3 l s.on && byteAt l (s.i + 1) == 94) ∧ s2 = (if nt then s.on.on else s.on) ∧ Br w a l s2 noSet w') ?_ ?_
  · repeat (first | refine qS ?_ | refine qB ?_ | refine qT rfl ?_ | refine qF rfl ?_ | ((first | refine qR rfl ?_ | refine qK ?_ | refine qE ?_ | refine qW ?_ | refine qM ?_); try simp -dsimp (maxSteps := 2000000) (disch := first | omega | (simp only [qZ] <;> omega) | fail) only [push_cast, ↓qP, ↓reduceIte, Nat.reduceEqDiff, Nat.reduceAdd, Nat.reduceMul, Nat.reduceSub, Nat.reduceLeDiff, Int.reduceToNat, reduceCtorEq]) | (refine qA ?_ ?_; (first | omega | (simp only [qL]; omega) | (simp only [qD] at *; omega))))
    refine CallV.gen (A := Br w a l s.on noSet) ⟨((h.alloc _).set 1 _).alloc _, ((Blk.new _ _ _).far (Nat.ne_of_gt hlt) _).alloc _, ?_, (((Kp.refl (· = a) w).alloc _).setCell (fun _ => rfl) _).alloc _, hlt, rfl⟩ ?_
    · have := Blk.new ((w.alloc (.cells zRe.toArray 33)).setCell ⟨a, 1, none⟩ (.int .i64 ((s.i : Int) + 1))) 4 (zeros [.bool false] 256)
      simpa [zeros_one, bools, noSet] using this
    intro w1 h1
    refine CallV.of isCall_71 (more3_any h1.at_) ?_
    rintro _ _ ⟨rfl, rfl⟩
    rcases Bool.eq_false_or_eq_true (more3 l s.on) with hm | hm
    · obtain ⟨hf0, hlt1⟩ := (more3_iff l s.on).1 hm
      refine Sm.out ?_
      repeat (first | refine qS ?_ | refine qB ?_ | refine qT rfl ?_ | refine qF rfl ?_ | ((first | refine qR rfl ?_ | refine qK ?_ | refine qE ?_ | refine qW ?_ | refine qM ?_); try simp -dsimp (maxSteps := 2000000) (disch := first | omega | (simp only [qZ] <;> omega) | fail) only [push_cast, ↓qP, ↓reduceIte, Nat.reduceEqDiff, Nat.reduceAdd, Nat.reduceMul, Nat.reduceSub, Nat.reduceLeDiff, Int.reduceToNat, reduceCtorEq, hm]) | (refine qA ?_ ?_; (first | omega | (simp only [qL]; omega) | (simp only [qD] at *; omega))))
      refine CallV.of isCall_72 (peek3 h1.at_.drew hlt1) ?_
      rintro _ _ ⟨rfl, rfl⟩
      have hltb := h1.at_.lt
      have e94 : (((byteAt l s.on.i).toNat : Int) == 94) = (byteAt l (s.i + 1) == 94) := u8_eq' _ 94
      rcases Bool.eq_false_or_eq_true (byteAt l (s.i + 1) == 94) with h94 | h94
      · refine Sm.out ?_
        repeat (first | refine qS ?_ | refine qB ?_ | refine qT rfl ?_ | refine qF rfl ?_ | ((first | refine qR rfl ?_ | refine qK ?_ | refine qE ?_ | refine qW ?_ | refine qM ?_); try simp -dsimp (maxSteps := 2000000) (disch := first | omega | (simp only [qZ] <;> omega) | fail) only [push_cast, ↓qP, ↓reduceIte, Nat.reduceEqDiff, Nat.reduceAdd, Nat.reduceMul, Nat.reduceSub, Nat.reduceLeDiff, Int.reduceToNat, reduceCtorEq, e94, h94, h1.at_.rdc, h1.at_.fz]) | (refine qA ?_ ?_; (first | omega | (simp only [qL]; omega) | (simp only [qD] at *; omega))))
        refine Mid.mk ⟨?_, ?_, ?_, true, s.on.on, ?_, by rw [hm, h94]; rfl, rfl, h1.drew.drew.seta (h1.drew.drew.at_.set 1 _)⟩
        all_goals (simp -dsimp (maxSteps := 2000000) (disch := first | omega | (simp only [qZ] <;> omega) | fail) only [push_cast, ↓qP, ↓reduceIte, Nat.reduceEqDiff, Nat.reduceAdd, Nat.reduceMul, Nat.reduceSub, Nat.reduceLeDiff, Int.reduceToNat, reduceCtorEq])
      · refine Sm.out ?_
        repeat (first | refine qS ?_ | refine qB ?_ | refine qT rfl ?_ | refine qF rfl ?_ | ((first | refine qR rfl ?_ | refine qK ?_ | refine qE ?_ | refine qW ?_ | refine qM ?_); try simp -dsimp (maxSteps := 2000000) (disch := first | omega | (simp only [qZ] <;> omega) | fail) only [push_cast, ↓qP, ↓reduceIte, Nat.reduceEqDiff, Nat.reduceAdd, Nat.reduceMul, Nat.reduceSub, Nat.reduceLeDiff, Int.reduceToNat, reduceCtorEq, e94, h94]) | (refine qA ?_ ?_; (first | omega | (simp only [qL]; omega) | (simp only [qD] at *; omega))))
        refine Mid.mk ⟨?_, ?_, ?_, false, s.on, ?_, by rw [hm, h94]; rfl, rfl, h1.drew.drew⟩
        all_goals (simp -dsimp (maxSteps := 2000000) (disch := first | omega | (simp only [qZ] <;> omega) | fail) only [push_cast, ↓qP, ↓reduceIte, Nat.reduceEqDiff, Nat.reduceAdd, Nat.reduceMul, Nat.reduceSub, Nat.reduceLeDiff, Int.reduceToNat, reduceCtorEq])
    · refine Sm.out ?_
      repeat (first | refine qS ?_ | refine qB ?_ | refine qT rfl ?_ | refine qF rfl ?_ | ((first | refine qR rfl ?_ | refine qK ?_ | refine qE ?_ | refine qW ?_ | refine qM ?_); try simp -dsimp (maxSteps := 2000000) (disch := first | omega | (simp only [qZ] <;> omega) | fail) only [push_cast, ↓qP, ↓reduceIte, Nat.reduceEqDiff, Nat.reduceAdd, Nat.reduceMul, Nat.reduceSub, Nat.reduceLeDiff, Int.reduceToNat, reduceCtorEq, hm]) | (refine qA ?_ ?_; (first | omega | (simp only [qL]; omega) | (simp only [qD] at *; omega))))
      refine Mid.mk ⟨?_, ?_, ?_, false, s.on, ?_, by rw [hm]; rfl, rfl, h1.drew⟩
      all_goals (simp -dsimp (maxSteps := 2000000) (disch := first | omega | (simp only [qZ] <;> omega) | fail) only [push_cast, ↓qP, ↓reduceIte, Nat.reduceEqDiff, Nat.reduceAdd, Nat.reduceMul, Nat.reduceSub, Nat.reduceLeDiff, Int.reduceToNat, reduceCtorEq])
  rintro F w1 ⟨f0, f2, f3, nt, s2, f4, hnt, hs2, h1⟩
  have hbr : bracket3 l s = match items3 l (l.length + 2) true noSet s2 with
      | none => none
      | some (none, s3) => some (Re.zero, s3)
      | some (some set, s3) => some (.node opSet (bytesOf set nt) [] 0 0, s3) := by
    rw [hs2, hnt]; rfl
  have hi2 : s2.i ≤ l.length + 1 ∧ s.i < s2.i := by
    rw [hs2]
    split
    · rename_i e
      rw [hnt] at e
      have := (more3_iff l s.on).1 (by simp at e; exact e.1)
      have h3 := this.2
      change s.i + 1 < _ at h3
      exact ⟨by show s.i + 1 + 1 ≤ _; omega, by show s.i < s.i + 1 + 1; omega⟩
    · exact ⟨by show s.i + 1 ≤ _; omega, by show s.i < s.i + 1; omega⟩
  clear hs2 hnt
  obtain ⟨R, hR⟩ : ∃ R, items3 l (l.length + 2) true noSet s2 = R := ⟨_, rfl⟩
  rw [hR] at hbr
  refine Wp.cutQ (fun F' w' => F' 2 = .pointer (some ⟨w.heap.size, 0, none⟩) ∧ F' 3 = .slice (some ⟨w.heap.size + 1, 0, none⟩) 256 256 ∧ F' 4 = .bool nt ∧
    ∃ set s3, R = some (some set, s3) ∧ Br w a l s3 set w') ?_ ?_
  · repeat (first | refine qS ?_ | refine qB ?_ | refine qT rfl ?_ | refine qF rfl ?_ | ((first | refine qR rfl ?_ | refine qK ?_ | refine qE ?_ | refine qW ?_ | refine qM ?_); try simp -dsimp (maxSteps := 2000000) (disch := first | omega | (simp only [qZ] <;> omega) | fail) only [push_cast, ↓qP, ↓reduceIte, Nat.reduceEqDiff, Nat.reduceAdd, Nat.reduceMul, Nat.reduceSub, Nat.reduceLeDiff, Int.reduceToNat, reduceCtorEq]) | (refine qA ?_ ?_; (first | omega | (simp only [qL]; omega) | (simp only [qD] at *; omega))))
    refine Wp.loop (α := Nat) (fun k F w2 => F 0 = .pointer (some ⟨a, 0, none⟩) ∧ F 2 = .pointer (some ⟨w.heap.size, 0, none⟩) ∧ F 3 = .slice (some ⟨w.heap.size + 1, 0, none⟩) 256 256 ∧ F 4 = .bool nt ∧
      ∃ first set s', F 5 = .bool first ∧ Br w a l s' set w2 ∧ s'.i ≤ l.length + 1 ∧ l.length + 2 ≤ s'.i + k ∧ Hide (items3 l k first set s' = R)) (fun k => k) (l.length + 2)
      ⟨by simp [upd, f0], by simp [upd, f2], by simp [upd, f3], by simp [upd, f4], true, noSet, s2, by simp [upd], h1, hi2.1, by omega, ⟨hR⟩⟩ ?_
    clear f0 f2 f3 f4 h1
    replace hbr : Hide _ := ⟨hbr⟩
    rintro k F w2 ⟨f0, f2, f3, f4, first, set, s', f5, h1, hi', hk, hit⟩
    obtain ⟨k, rfl⟩ : ∃ k', k = k' + 1 := ⟨k - 1, by omega⟩
    have hlta := h1.at_.lt
    have hltr := h1.r.lt
    have hltg := h1.g.lt
    have hrr := h1.r.rdc
    have hrz := h1.r.fz
    rcases Bool.eq_false_or_eq_true (s'.f != 0) with hf | hf
    · repeat (first | refine qS ?_ | refine qB ?_ | refine qT rfl ?_ | refine qF rfl ?_ | ((first | refine qR rfl ?_ | refine qK ?_ | refine qE ?_ | refine qW ?_ | refine qM ?_); try simp -dsimp (maxSteps := 2000000) (disch := first | omega | (simp only [qZ] <;> omega) | fail) only [push_cast, ↓qP, ↓reduceIte, Nat.reduceEqDiff, Nat.reduceAdd, Nat.reduceMul, Nat.reduceSub, Nat.reduceLeDiff, Int.reduceToNat, reduceCtorEq, f0, h1.at_.rdc, hf, f2, hrr, hrz]) | (refine qA ?_ ?_; (first | omega | (simp only [qL]; omega) | (simp only [qD] at *; omega))))
      exact h1.out (t := Re.zero) (cs := zRe) (by rw [hbr.out, ← hit.out]; simp only [items3]; rw [if_pos (by simpa using hf)]) (by simp [upd, f2]) rfl (fun w' => zRe_is _ _)
    have hf0 : s'.f = 0 := by simpa using hf
    have hit1 := hit.out.symm
    simp only [items3] at hit1
    rw [if_neg (by simpa using hf)] at hit1
    clear hit
    rcases Bool.eq_false_or_eq_true (decide ((s'.i : Int) ≥ (l.length : Int))) with hge | hge
    · rw [if_pos (by simpa using hge)] at hit1
      repeat (first | refine qS ?_ | refine qB ?_ | refine qT rfl ?_ | refine qF rfl ?_ | ((first | refine qR rfl ?_ | refine qK ?_ | refine qE ?_ | refine qW ?_ | refine qM ?_); try simp -dsimp (maxSteps := 2000000) (disch := first | omega | (simp only [qZ] <;> omega) | fail) only [push_cast, ↓qP, ↓reduceIte, Nat.reduceEqDiff, Nat.reduceAdd, Nat.reduceMul, Nat.reduceSub, Nat.reduceLeDiff, Int.reduceToNat, reduceCtorEq, f0, h1.at_.rdc, hf, f2]) | (refine qA ?_ ?_; (first | omega | (simp only [qL]; omega) | (simp only [qD] at *; omega))))
      refine Wp.draw [0, 1, 3, 7, 0, 16, 48, 112, 240, 511] [] (.op 0 false false [] <| .op 1 false false [] <| .op 2 false false [] <| .op 3 false false [] <| .op 4 false false [] <| .op 5 false false [] <| .op 6 false false [] <| .op 7 false false [] <| .op 8 false false [] <| .op 9 false false [] <| .nil) mixed (by kernel_rfl) ?_
      simp -dsimp (maxSteps := 2000000) (disch := first | omega | (simp only [qZ] <;> omega) | fail) only [push_cast, ↓qP, ↓reduceIte, Nat.reduceEqDiff, Nat.reduceAdd, Nat.reduceMul, Nat.reduceSub, Nat.reduceLeDiff, Int.reduceToNat, reduceCtorEq, h1.at_.rdc, f0, hge, f2]
      repeat (first | refine qS ?_ | refine qB ?_ | refine qT rfl ?_ | refine qF rfl ?_ | ((first | refine qR rfl ?_ | refine qK ?_ | refine qE ?_ | refine qW ?_ | refine qM ?_); try simp -dsimp (maxSteps := 2000000) (disch := first | omega | (simp only [qZ] <;> omega) | fail) only [push_cast, ↓qP, ↓reduceIte, Nat.reduceEqDiff, Nat.reduceAdd, Nat.reduceMul, Nat.reduceSub, Nat.reduceLeDiff, Int.reduceToNat, reduceCtorEq, f0, f2, hge]) | (refine qA ?_ ?_; (first | omega | (simp only [qL]; omega) | (simp only [qD] at *; omega))))
      refine CallV.of isCall_50 (fail3 h1.at_.drew 2) ?_
      rintro _ w3 ⟨rfl, h3, k3⟩
      have h4 := h1.drew.keep h3 k3
      have hltr := h4.r.lt
      have hrr := h4.r.rdc
      have hrz := h4.r.fz
      refine Sm.out ?_
      repeat (first | refine qS ?_ | refine qB ?_ | refine qT rfl ?_ | refine qF rfl ?_ | ((first | refine qR rfl ?_ | refine qK ?_ | refine qE ?_ | refine qW ?_ | refine qM ?_); try simp -dsimp (maxSteps := 2000000) (disch := first | omega | (simp only [qZ] <;> omega) | fail) only [push_cast, ↓qP, ↓reduceIte, Nat.reduceEqDiff, Nat.reduceAdd, Nat.reduceMul, Nat.reduceSub, Nat.reduceLeDiff, Int.reduceToNat, reduceCtorEq, f0, f2, hrr, hrz]) | (refine qA ?_ ?_; (first | omega | (simp only [qL]; omega) | (simp only [qD] at *; omega))))
      exact h4.out (t := Re.zero) (cs := zRe) (by rw [hbr.out, hit1]) (by simp [upd, f2]) rfl (fun w' => zRe_is _ _)
    have hlt2 : s'.i < l.length := by simpa using hge
    rw [if_neg (by simpa using hge)] at hit1
    repeat (first | refine qS ?_ | refine qB ?_ | refine qT rfl ?_ | refine qF rfl ?_ | ((first | refine qR rfl ?_ | refine qK ?_ | refine qE ?_ | refine qW ?_ | refine qM ?_); try simp -dsimp (maxSteps := 2000000) (disch := first | omega | (simp only [qZ] <;> omega) | fail) only [push_cast, ↓qP, ↓reduceIte, Nat.reduceEqDiff, Nat.reduceAdd, Nat.reduceMul, Nat.reduceSub, Nat.reduceLeDiff, Int.reduceToNat, reduceCtorEq, f0, h1.at_.rdc, hf]) | (refine qA ?_ ?_; (first | omega | (simp only [qL]; omega) | (simp only [qD] at *; omega))))
    refine Wp.draw [0, 1, 3, 7, 0, 16, 48, 112, 240, 511] [] (.op 0 false false [] <| .op 1 false false [] <| .op 2 false false [] <| .op 3 false false [] <| .op 4 false false [] <| .op 5 false false [] <| .op 6 false false [] <| .op 7 false false [] <| .op 8 false false [] <| .op 9 false false [] <| .nil) mixed (by kernel_rfl) ?_
    simp -dsimp (maxSteps := 2000000) (disch := first | omega | (simp only [qZ] <;> omega) | fail) only [push_cast, ↓qP, ↓reduceIte, Nat.reduceEqDiff, Nat.reduceAdd, Nat.reduceMul, Nat.reduceSub, Nat.reduceLeDiff, Int.reduceToNat, reduceCtorEq, h1.at_.rdc, f0, hge]
    refine Sm.out ?_
    repeat (first | ((fail_if_success (first | refine qY (n := 14) ?_ | refine qV (n := 14) ?_)); refine qS ?_) | refine qB ?_ | refine qT rfl ?_ | refine qF rfl ?_ | ((first | refine qR rfl ?_ | refine qK ?_ | refine qE ?_ | refine qW ?_ | refine qM ?_); try simp -dsimp (maxSteps := 2000000) (disch := first | omega | (simp only [qZ] <;> omega) | fail) only [push_cast, ↓qP, ↓reduceIte, Nat.reduceEqDiff, Nat.reduceAdd, Nat.reduceMul, Nat.reduceSub, Nat.reduceLeDiff, Int.reduceToNat, reduceCtorEq, f0, hge]) | (refine qA ?_ ?_; (first | omega | (simp only [qL]; omega) | (simp only [qD] at *; omega))))
    have h2 := h1.drew
    clear h1 hlta hltr hltg hrr hrz
    generalize w2.drew = w3 at *
    have hlta := h2.at_.lt
    have e93 : (((byteAt l s'.i).toNat : Int) == 93) = (byteAt l s'.i == 93) := u8_eq' _ 93
    rcases Bool.eq_false_or_eq_true (byteAt l s'.i == 93 && !first) with hcl | hcl
    · rw [if_pos hcl] at hit1
      simp only [Bool.and_eq_true, Bool.not_eq_true'] at hcl
      obtain ⟨hcl1, hcl2⟩ := hcl
      repeat (first | refine qS ?_ | refine qB ?_ | refine qT rfl ?_ | refine qF rfl ?_ | ((first | refine qR rfl ?_ | refine qK ?_ | refine qE ?_ | refine qW ?_ | refine qM ?_); try simp -dsimp (maxSteps := 2000000) (disch := first | omega | (simp only [qZ] <;> omega) | fail) only [push_cast, ↓qP, ↓reduceIte, Nat.reduceEqDiff, Nat.reduceAdd, Nat.reduceMul, Nat.reduceSub, Nat.reduceLeDiff, Int.reduceToNat, reduceCtorEq, f0]) | (refine qA ?_ ?_; (first | omega | (simp only [qL]; omega) | (simp only [qD] at *; omega))))
      refine CallV.of isCall_72 (peek3 h2.at_ hlt2) ?_
      rintro _ _ ⟨rfl, rfl⟩
      refine Sm.out ?_
      repeat (first | refine qS ?_ | refine qB ?_ | refine qT rfl ?_ | refine qF rfl ?_ | ((first | refine qR rfl ?_ | refine qK ?_ | refine qE ?_ | refine qW ?_ | refine qM ?_); try simp -dsimp (maxSteps := 2000000) (disch := first | omega | (simp only [qZ] <;> omega) | fail) only [push_cast, ↓qP, ↓reduceIte, Nat.reduceEqDiff, Nat.reduceAdd, Nat.reduceMul, Nat.reduceSub, Nat.reduceLeDiff, Int.reduceToNat, reduceCtorEq, f0, f2, f3, f4, f5, e93, hcl1, hcl2, h2.at_.rdc, h2.at_.fz]) | (refine qA ?_ ?_; (first | omega | (simp only [qL]; omega) | (simp only [qD] at *; omega))))
      exact Mid.mk ⟨by simp [upd, f2], by simp [upd, f3], by simp [upd, f4], set, s'.on, hit1, h2.drew.seta (h2.drew.at_.set 1 _)⟩
    rw [if_neg (by rw [hcl]; simp)] at hit1
    refine Wp.cut (fun F w4 => F 0 = .pointer (some ⟨a, 0, none⟩) ∧ F 2 = .pointer (some ⟨w.heap.size, 0, none⟩) ∧ F 3 = .slice (some ⟨w.heap.size + 1, 0, none⟩) 256 256 ∧ F 4 = .bool nt ∧ Br w a l s' set w4) ?_ ?_
    · repeat (first | refine qS ?_ | refine qB ?_ | refine qT rfl ?_ | refine qF rfl ?_ | ((first | refine qR rfl ?_ | refine qK ?_ | refine qE ?_ | refine qW ?_ | refine qM ?_); try simp -dsimp (maxSteps := 2000000) (disch := first | omega | (simp only [qZ] <;> omega) | fail) only [push_cast, ↓qP, ↓reduceIte, Nat.reduceEqDiff, Nat.reduceAdd, Nat.reduceMul, Nat.reduceSub, Nat.reduceLeDiff, Int.reduceToNat, reduceCtorEq, f0]) | (refine qA ?_ ?_; (first | omega | (simp only [qL]; omega) | (simp only [qD] at *; omega))))
      refine CallV.of isCall_72 (peek3 h2.at_ hlt2) ?_
      rintro _ _ ⟨rfl, rfl⟩
      rcases Bool.eq_false_or_eq_true (byteAt l s'.i == 93) with hcl1 | hcl1
      · have hcl2 : first = true := by rw [hcl1] at hcl; simpa using hcl
        refine Sm.out ?_
        repeat (first | refine qS ?_ | refine qB ?_ | refine qT rfl ?_ | refine qF rfl ?_ | ((first | refine qR rfl ?_ | refine qK ?_ | refine qE ?_ | refine qW ?_ | refine qM ?_); try simp -dsimp (maxSteps := 2000000) (disch := first | omega | (simp only [qZ] <;> omega) | fail) only [push_cast, ↓qP, ↓reduceIte, Nat.reduceEqDiff, Nat.reduceAdd, Nat.reduceMul, Nat.reduceSub, Nat.reduceLeDiff, Int.reduceToNat, reduceCtorEq, f0, f2, f3, f4, f5, e93, hcl1, hcl2]) | (refine qA ?_ ?_; (first | omega | (simp only [qL]; omega) | (simp only [qD] at *; omega))))
        exact Mid.mk ⟨by simp [upd, f0], by simp [upd, f2], by simp [upd, f3], by simp [upd, f4], h2.drew⟩
      · refine Sm.out ?_
        repeat (first | refine qS ?_ | refine qB ?_ | refine qT rfl ?_ | refine qF rfl ?_ | ((first | refine qR rfl ?_ | refine qK ?_ | refine qE ?_ | refine qW ?_ | refine qM ?_); try simp -dsimp (maxSteps := 2000000) (disch := first | omega | (simp only [qZ] <;> omega) | fail) only [push_cast, ↓qP, ↓reduceIte, Nat.reduceEqDiff, Nat.reduceAdd, Nat.reduceMul, Nat.reduceSub, Nat.reduceLeDiff, Int.reduceToNat, reduceCtorEq, f0, f2, f3, f4, f5, e93, hcl1]) | (refine qA ?_ ?_; (first | omega | (simp only [qL]; omega) | (simp only [qD] at *; omega))))
        exact Mid.mk ⟨by simp [upd, f0], by simp [upd, f2], by simp [upd, f3], by simp [upd, f4], h2.drew⟩
    clear f0 f2 f3 f4 f5 h2 hcl e93 hlta
    rintro F w4 ⟨f0, f2, f3, f4, h2⟩
    repeat (first | refine qS ?_ | refine qB ?_ | refine qT rfl ?_ | refine qF rfl ?_ | ((first | refine qR rfl ?_ | refine qK ?_ | refine qE ?_ | refine qW ?_ | refine qM ?_); try simp -dsimp (maxSteps := 2000000) (disch := first | omega | (simp only [qZ] <;> omega) | fail) only [push_cast, ↓qP, ↓reduceIte, Nat.reduceEqDiff, Nat.reduceAdd, Nat.reduceMul, Nat.reduceSub, Nat.reduceLeDiff, Int.reduceToNat, reduceCtorEq, f0, f3]) | (refine qA ?_ ?_; (first | omega | (simp only [qL]; omega) | (simp only [qD] at *; omega))))
    refine CallV.of isCall_101 (item3_any h2.at_ h2.g h2.len hl hlt2) ?_
    rintro _ w5 ⟨rfl, h3, hg3, k3⟩
    obtain ⟨q1, q2, q3, q4⟩ := item3_facts l s' set hlt2
    have q5 := item3_more l s' set hlt2 hf0
    have h4 := h2.item h3 hg3 q4 k3
    have q6 : (item3 l s' set).2.1.length = 256 := q4.trans h2.len
    clear h2 h3 hg3 k3
    generalize item3 l s' set = r1 at *
    obtain ⟨⟨lo, single⟩, set1, s1⟩ := r1
    simp only at hit1 h4 q1 q2 q3 q4 q5 q6
    have hlta := h4.at_.lt
    have hltr := h4.r.lt
    have hrr := h4.r.rdc
    have hrz := h4.r.fz
    have hhi := hi
    rcases Bool.eq_false_or_eq_true (s1.f != 0) with hf1 | hf1
    · rw [if_pos (by simpa using hf1)] at hit1
      refine Sm.out ?_
      repeat (first | refine qS ?_ | refine qB ?_ | refine qT rfl ?_ | refine qF rfl ?_ | ((first | refine qR rfl ?_ | refine qK ?_ | refine qE ?_ | refine qW ?_ | refine qM ?_); try simp -dsimp (maxSteps := 2000000) (disch := first | omega | (simp only [qZ] <;> omega) | fail) only [push_cast, ↓qP, ↓reduceIte, Nat.reduceEqDiff, Nat.reduceAdd, Nat.reduceMul, Nat.reduceSub, Nat.reduceLeDiff, Int.reduceToNat, reduceCtorEq, f0, f2, f3, h4.at_.rdc, hf1, hrr, hrz]) | (refine qA ?_ ?_; (first | omega | (simp only [qL]; omega) | (simp only [qD] at *; omega))))
      exact h4.out (t := Re.zero) (cs := zRe) (by rw [hbr.out, hit1]) (by simp [upd, f2]) rfl (fun w' => zRe_is _ _)
    rw [if_neg (by simpa using hf1)] at hit1
    have hs1 : s1.f = 0 := by simpa using hf1
    have q5' := q5 hs1
    clear q5
    have hix : ((s1.i : Int) + 1).toNat = s1.i + 1 := by omega
    have e45 : (((byteAt l s1.i).toNat : Int) == 45) = (byteAt l s1.i == 45) := u8_eq' _ 45
    have e93 : (((byteAt l (s1.i + 1)).toNat : Int) != 93) = !(byteAt l (s1.i + 1) == 93) := congrArg (! ·) (u8_eq' (byteAt l (s1.i + 1)) 93)
    refine Sm.out ?_
    repeat (first | ((fail_if_success (first | refine qY (n := 19) ?_ | refine qV (n := 19) ?_)); refine qS ?_) | refine qB ?_ | refine qT rfl ?_ | refine qF rfl ?_ | ((first | refine qR rfl ?_ | refine qK ?_ | refine qE ?_ | refine qW ?_ | refine qM ?_); try simp -dsimp (maxSteps := 2000000) (disch := first | omega | (simp only [qZ] <;> omega) | fail) only [push_cast, ↓qP, ↓reduceIte, Nat.reduceEqDiff, Nat.reduceAdd, Nat.reduceMul, Nat.reduceSub, Nat.reduceLeDiff, Int.reduceToNat, reduceCtorEq, f0, f2, f3, h4.at_.rdc, hf1]) | (refine qA ?_ ?_; (first | omega | (simp only [qL]; omega) | (simp only [qD] at *; omega))))
    refine Wp.cutQ (fun F w4 => F 0 = .pointer (some ⟨a, 0, none⟩) ∧ F 2 = .pointer (some ⟨w.heap.size, 0, none⟩) ∧ F 3 = .slice (some ⟨w.heap.size + 1, 0, none⟩) 256 256 ∧ F 4 = .bool nt ∧ F 6 = .int .u8 (lo.toNat : Int) ∧ F 7 = .bool single ∧ Br w a l s1 set1 w4 ∧
      R = items3 l k false (if single = true then set1.set lo.toNat true else set1) s1) ?_ ?_
    · rcases Bool.eq_false_or_eq_true (decide ((s1.i : Int) + 1 < (l.length : Int)) && byteAt l s1.i == 45 && !(byteAt l (s1.i + 1) == 93)) with hr | hr
      · rw [if_pos hr] at hit1
        simp only [Bool.and_eq_true] at hr
        obtain ⟨⟨c1, c2⟩, c3⟩ := hr
        have c1' : s1.i + 1 < l.length := by simp at c1; omega
        refine Wp.seq (Wp.draw [0, 1, 3, 7, 15, 0, 32, 96, 224, 480, 1023, 2047, 4095, 8191, 16383, 32767, 4095, 69631, 200703, 462847, 1048575, 2097151, 4194303, 8388607, 16777215, 33554431, 67108863, 134217727, 16777215, 285212671, 822083583, 1895825407, 4043309055, 8589934591, 17179869183, 34359738367] [] (.op 0 false false [] <| .op 1 false false [] <| .op 2 false false [] <| .op 3 false false [] <| .op 4 false false [] <| .op 5 false false [] <| .op 6 false false [] <| .op 7 false false [] <| .op 8 false false [] <| .op 9 false false [] <| .op 10 false false [] <| .op 11 false false [] <| .op 12 false false [] <| .op 13 false false [] <| .op 14 false false [] <| .op 15 false false [] <| .op 16 false false [] <| .op 17 false false [] <| .op 18 false false [] <| .op 19 false false [] <| .op 20 false false [] <| .op 21 false false [] <| .op 22 false false [] <| .op 23 false false [] <| .op 24 false false [] <| .op 25 false false [] <| .op 26 false false [] <| .op 27 false false [] <| .op 28 false false [] <| .op 29 false false [] <| .op 30 false false [] <| .op 31 false false [] <| .op 32 false false [] <| .op 33 false false [] <| .op 34 false false [] <| .op 35 false false [] <| .nil) mixed (by kernel_rfl) ?_)
        simp -dsimp (maxSteps := 2000000) (disch := first | omega | (simp only [qZ] <;> omega) | fail) only [push_cast, ↓qP, ↓reduceIte, Nat.reduceEqDiff, Nat.reduceAdd, Nat.reduceMul, Nat.reduceSub, Nat.reduceLeDiff, Int.reduceToNat, reduceCtorEq, h4.at_.rdc, f0, c1, e45, e93, c2, c3, hix]
        refine ⟨by omega, ?_⟩
        refine Sm.out ?_
        repeat (first | refine qS ?_ | refine qB ?_ | refine qT rfl ?_ | refine qF rfl ?_ | ((first | refine qR rfl ?_ | refine qK ?_ | refine qE ?_ | refine qW ?_ | refine qM ?_); try simp -dsimp (maxSteps := 2000000) (disch := first | omega | (simp only [qZ] <;> omega) | fail) only [push_cast, ↓qP, ↓reduceIte, Nat.reduceEqDiff, Nat.reduceAdd, Nat.reduceMul, Nat.reduceSub, Nat.reduceLeDiff, Int.reduceToNat, reduceCtorEq, f0, f2, f3, h4.at_.rdc, c1, c2, c3, e93, e45, hix]) | (refine qA ?_ ?_; (first | omega | (simp only [qL]; omega) | (simp only [qD] at *; omega))))
        have h5 := h4.drew
        cases single with
        | false =>
          rw [if_pos (show (!false) = true from rfl)] at hit1
          refine Sm.out ?_
          repeat (first | refine qS ?_ | refine qB ?_ | refine qT rfl ?_ | refine qF rfl ?_ | ((first | refine qR rfl ?_ | refine qK ?_ | refine qE ?_ | refine qW ?_ | refine qM ?_); try simp -dsimp (maxSteps := 2000000) (disch := first | omega | (simp only [qZ] <;> omega) | fail) only [push_cast, ↓qP, ↓reduceIte, Nat.reduceEqDiff, Nat.reduceAdd, Nat.reduceMul, Nat.reduceSub, Nat.reduceLeDiff, Int.reduceToNat, reduceCtorEq, f0, f2, f3]) | (refine qA ?_ ?_; (first | omega | (simp only [qL]; omega) | (simp only [qD] at *; omega))))
          refine CallV.of isCall_50 (fail3 h5.at_ 2) ?_
          rintro _ w6 ⟨rfl, h6, k6⟩
          have h7 := h5.keep h6 k6
          have hltr := h7.r.lt
          have hrr := h7.r.rdc
          have hrz := h7.r.fz
          refine Sm.out ?_
          repeat (first | refine qS ?_ | refine qB ?_ | refine qT rfl ?_ | refine qF rfl ?_ | ((first | refine qR rfl ?_ | refine qK ?_ | refine qE ?_ | refine qW ?_ | refine qM ?_); try simp -dsimp (maxSteps := 2000000) (disch := first | omega | (simp only [qZ] <;> omega) | fail) only [push_cast, ↓qP, ↓reduceIte, Nat.reduceEqDiff, Nat.reduceAdd, Nat.reduceMul, Nat.reduceSub, Nat.reduceLeDiff, Int.reduceToNat, reduceCtorEq, f0, f2, hrr, hrz]) | (refine qA ?_ ?_; (first | omega | (simp only [qL]; omega) | (simp only [qD] at *; omega))))
          exact h7.out (t := Re.zero) (cs := zRe) (by rw [hbr.out, hit1]) (by simp [upd, f2]) rfl (fun w' => zRe_is _ _)
        | true =>
          rw [if_neg (by simp)] at hit1
          refine Sm.out ?_
          repeat (first | ((fail_if_success (first | refine qY (n := 24) ?_ | refine qV (n := 24) ?_)); refine qS ?_) | refine qB ?_ | refine qT rfl ?_ | refine qF rfl ?_ | ((first | refine qR rfl ?_ | refine qK ?_ | refine qE ?_ | refine qW ?_ | refine qM ?_); try simp -dsimp (maxSteps := 2000000) (disch := first | omega | (simp only [qZ] <;> omega) | fail) only [push_cast, ↓qP, ↓reduceIte, Nat.reduceEqDiff, Nat.reduceAdd, Nat.reduceMul, Nat.reduceSub, Nat.reduceLeDiff, Int.reduceToNat, reduceCtorEq, f0, f2, f3, h4.at_.rdc, h4.at_.fz]) | (refine qA ?_ ?_; (first | omega | (simp only [qL]; omega) | (simp only [qD] at *; omega))))
          have h5 : Br w a l s1.on set1 (w5.drew.setCell ⟨a, 1, none⟩ (.int .i64 ((s1.i : Int) + 1))) := h5.seta (h5.at_.set 1 _)
          have e5 : (w5.drew.setCell ⟨a, 1, none⟩ (.int .i64 ((s1.i : Int) + 1))).heap.size = w5.heap.size := by simp
          clear hltr hrr hrz h4
          generalize (w5.drew.setCell ⟨a, 1, none⟩ (.int .i64 ((s1.i : Int) + 1))) = w6 at *
          rw [← e5] at hlta
          repeat (first | refine qS ?_ | refine qB ?_ | refine qT rfl ?_ | refine qF rfl ?_ | ((first | refine qR rfl ?_ | refine qK ?_ | refine qE ?_ | refine qW ?_ | refine qM ?_); try simp -dsimp (maxSteps := 2000000) (disch := first | omega | (simp only [qZ] <;> omega) | fail) only [push_cast, ↓qP, ↓reduceIte, Nat.reduceEqDiff, Nat.reduceAdd, Nat.reduceMul, Nat.reduceSub, Nat.reduceLeDiff, Int.reduceToNat, reduceCtorEq, f0, f2, f3]) | (refine qA ?_ ?_; (first | omega | (simp only [qL]; omega) | (simp only [qD] at *; omega))))
          have hson : s1.on.i = s1.i + 1 := rfl
          have hnew : Blk (w6.alloc (.cells (zeros [.bool false] 256).toArray 4)) w6.heap.size 4 (bools noSet) := by
            have := Blk.new w6 4 (zeros [.bool false] 256)
            simpa [zeros_one, bools, noSet] using this
          refine CallV.of isCall_101 (item3_any (h5.at_.alloc _) hnew rfl hl (by rw [hson]; exact c1')) ?_
          rintro _ w7 ⟨rfl, h6, _, k6⟩
          obtain ⟨q7, q8, q9, q10⟩ := item3_facts l s1.on noSet (by rw [hson]; exact c1')
          have h7 := h5.item2 rfl h6 k6
          clear h5 h6 k6 hnew e5
          rw [hson] at q7
          generalize item3 l s1.on noSet = r2 at *
          obtain ⟨⟨hi2, one⟩, set2, s3⟩ := r2
          simp only at hit1 h7 q7 q8 q9 q10
          have hltr := h7.r.lt
          have hrr := h7.r.rdc
          have hrz := h7.r.fz
          have hlta := h7.at_.lt
          refine Sm.out ?_
          repeat (first | ((fail_if_success (first | refine qY (n := 25) ?_ | refine qV (n := 25) ?_)); refine qS ?_) | refine qB ?_ | refine qT rfl ?_ | refine qF rfl ?_ | ((first | refine qR rfl ?_ | refine qK ?_ | refine qE ?_ | refine qW ?_ | refine qM ?_); try simp -dsimp (maxSteps := 2000000) (disch := first | omega | (simp only [qZ] <;> omega) | fail) only [push_cast, ↓qP, ↓reduceIte, Nat.reduceEqDiff, Nat.reduceAdd, Nat.reduceMul, Nat.reduceSub, Nat.reduceLeDiff, Int.reduceToNat, reduceCtorEq, f0, f2, f3]) | (refine qA ?_ ?_; (first | omega | (simp only [qL]; omega) | (simp only [qD] at *; omega))))
          rcases Bool.eq_false_or_eq_true (s3.f != 0) with hf2 | hf2
          · rw [if_pos (by simpa using hf2)] at hit1
            repeat (first | refine qS ?_ | refine qB ?_ | refine qT rfl ?_ | refine qF rfl ?_ | ((first | refine qR rfl ?_ | refine qK ?_ | refine qE ?_ | refine qW ?_ | refine qM ?_); try simp -dsimp (maxSteps := 2000000) (disch := first | omega | (simp only [qZ] <;> omega) | fail) only [push_cast, ↓qP, ↓reduceIte, Nat.reduceEqDiff, Nat.reduceAdd, Nat.reduceMul, Nat.reduceSub, Nat.reduceLeDiff, Int.reduceToNat, reduceCtorEq, f0, f2, f3, h7.at_.rdc, hf2, hrr, hrz]) | (refine qA ?_ ?_; (first | omega | (simp only [qL]; omega) | (simp only [qD] at *; omega))))
            exact h7.out (t := Re.zero) (cs := zRe) (by rw [hbr.out, hit1]) (by simp [upd, f2]) rfl (fun w' => zRe_is _ _)
          rw [if_neg (by simpa using hf2)] at hit1
          refine Sm.out ?_
          repeat (first | ((fail_if_success (first | refine qY (n := 27) ?_ | refine qV (n := 27) ?_)); refine qS ?_) | refine qB ?_ | refine qT rfl ?_ | refine qF rfl ?_ | ((first | refine qR rfl ?_ | refine qK ?_ | refine qE ?_ | refine qW ?_ | refine qM ?_); try simp -dsimp (maxSteps := 2000000) (disch := first | omega | (simp only [qZ] <;> omega) | fail) only [push_cast, ↓qP, ↓reduceIte, Nat.reduceEqDiff, Nat.reduceAdd, Nat.reduceMul, Nat.reduceSub, Nat.reduceLeDiff, Int.reduceToNat, reduceCtorEq, f0, f2, f3, h7.at_.rdc, hf2, by8]) | (refine qA ?_ ?_; (first | omega | (simp only [qL]; omega) | (simp only [qD] at *; omega))))
          have egt : decide ((lo.toNat : Int) > (hi2.toNat : Int)) = decide ((lo.toNat : Int) > (hi2.toNat : Int)) := rfl
          rcases Bool.eq_false_or_eq_true (!one || decide ((lo.toNat : Int) > (hi2.toNat : Int))) with hbad | hbad
          · rw [if_pos hbad] at hit1
            have hbad' : one = false ∨ (one = true ∧ decide ((lo.toNat : Int) > (hi2.toNat : Int)) = true) := by
              cases one <;> simp at hbad ⊢ <;> exact hbad
            clear hbad
            rcases hbad' with rfl | ⟨rfl, hbad⟩
            · repeat (first | refine qS ?_ | refine qB ?_ | refine qT rfl ?_ | refine qF rfl ?_ | ((first | refine qR rfl ?_ | refine qK ?_ | refine qE ?_ | refine qW ?_ | refine qM ?_); try simp -dsimp (maxSteps := 2000000) (disch := first | omega | (simp only [qZ] <;> omega) | fail) only [push_cast, ↓qP, ↓reduceIte, Nat.reduceEqDiff, Nat.reduceAdd, Nat.reduceMul, Nat.reduceSub, Nat.reduceLeDiff, Int.reduceToNat, reduceCtorEq, f0, f2, f3, by8]) | (refine qA ?_ ?_; (first | omega | (simp only [qL]; omega) | (simp only [qD] at *; omega))))
              refine CallV.of isCall_50 (fail3 h7.at_ 2) ?_
              rintro _ w8 ⟨rfl, h8, k8⟩
              have h9 := h7.keep h8 k8
              have hltr := h9.r.lt
              have hrr := h9.r.rdc
              have hrz := h9.r.fz
              refine Sm.out ?_
              repeat (first | refine qS ?_ | refine qB ?_ | refine qT rfl ?_ | refine qF rfl ?_ | ((first | refine qR rfl ?_ | refine qK ?_ | refine qE ?_ | refine qW ?_ | refine qM ?_); try simp -dsimp (maxSteps := 2000000) (disch := first | omega | (simp only [qZ] <;> omega) | fail) only [push_cast, ↓qP, ↓reduceIte, Nat.reduceEqDiff, Nat.reduceAdd, Nat.reduceMul, Nat.reduceSub, Nat.reduceLeDiff, Int.reduceToNat, reduceCtorEq, f0, f2, hrr, hrz]) | (refine qA ?_ ?_; (first | omega | (simp only [qL]; omega) | (simp only [qD] at *; omega))))
              exact h9.out (t := Re.zero) (cs := zRe) (by rw [hbr.out, hit1]) (by simp [upd, f2]) rfl (fun w' => zRe_is _ _)
            · repeat (first | refine qS ?_ | refine qB ?_ | refine qT rfl ?_ | refine qF rfl ?_ | ((first | refine qR rfl ?_ | refine qK ?_ | refine qE ?_ | refine qW ?_ | refine qM ?_); try simp -dsimp (maxSteps := 2000000) (disch := first | omega | (simp only [qZ] <;> omega) | fail) only [push_cast, ↓qP, ↓reduceIte, Nat.reduceEqDiff, Nat.reduceAdd, Nat.reduceMul, Nat.reduceSub, Nat.reduceLeDiff, Int.reduceToNat, reduceCtorEq, f0, f2, f3, hbad, by8]) | (refine qA ?_ ?_; (first | omega | (simp only [qL]; omega) | (simp only [qD] at *; omega))))
              refine CallV.of isCall_50 (fail3 h7.at_ 2) ?_
              rintro _ w8 ⟨rfl, h8, k8⟩
              have h9 := h7.keep h8 k8
              have hltr := h9.r.lt
              have hrr := h9.r.rdc
              have hrz := h9.r.fz
              refine Sm.out ?_
              repeat (first | refine qS ?_ | refine qB ?_ | refine qT rfl ?_ | refine qF rfl ?_ | ((first | refine qR rfl ?_ | refine qK ?_ | refine qE ?_ | refine qW ?_ | refine qM ?_); try simp -dsimp (maxSteps := 2000000) (disch := first | omega | (simp only [qZ] <;> omega) | fail) only [push_cast, ↓qP, ↓reduceIte, Nat.reduceEqDiff, Nat.reduceAdd, Nat.reduceMul, Nat.reduceSub, Nat.reduceLeDiff, Int.reduceToNat, reduceCtorEq, f0, f2, hrr, hrz]) | (refine qA ?_ ?_; (first | omega | (simp only [qL]; omega) | (simp only [qD] at *; omega))))
              exact h9.out (t := Re.zero) (cs := zRe) (by rw [hbr.out, hit1]) (by simp [upd, f2]) rfl (fun w' => zRe_is _ _)
          · rw [if_neg (by rw [hbad]; simp)] at hit1
            simp only [Bool.or_eq_false_iff, Bool.not_eq_false'] at hbad
            obtain ⟨rfl, hle⟩ := hbad
            have hle' : lo.toNat ≤ hi2.toNat := by simp at hle; omega
            have hlo := lo.toNat_lt
            have hhi2 := hi2.toNat_lt
            repeat (first | refine qS ?_ | refine qB ?_ | refine qT rfl ?_ | refine qF rfl ?_ | ((first | refine qR rfl ?_ | refine qK ?_ | refine qE ?_ | refine qW ?_ | refine qM ?_); try simp -dsimp (maxSteps := 2000000) (disch := first | omega | (simp only [qZ] <;> omega) | fail) only [push_cast, ↓qP, ↓reduceIte, Nat.reduceEqDiff, Nat.reduceAdd, Nat.reduceMul, Nat.reduceSub, Nat.reduceLeDiff, Int.reduceToNat, reduceCtorEq, f0, f2, f3, hle, by8]) | (refine qA ?_ ?_; (first | omega | (simp only [qL]; omega) | (simp only [qD] at *; omega))))
            refine Wp.loop (α := Nat) (fun k F w8 => F 0 = .pointer (some ⟨a, 0, none⟩) ∧ F 2 = .pointer (some ⟨w.heap.size, 0, none⟩) ∧ F 3 = .slice (some ⟨w.heap.size + 1, 0, none⟩) 256 256 ∧ F 4 = .bool nt ∧ F 8 = .int .u8 (hi2.toNat : Int) ∧ F 10 = .int .i64 k ∧ lo.toNat ≤ k ∧ k ≤ hi2.toNat + 1 ∧ Br w a l s3 (putK set1 lo.toNat k) w8) (fun k => hi2.toNat + 1 - k) lo.toNat
              ⟨by simp [upd, f0], by simp [upd, f2], by simp [upd, f3], by simp [upd, f4], by simp [upd], by simp [upd], by omega, by omega, by rw [putK_zero]; exact h7⟩ ?_
            clear f0 f2 f3 f4 h7 hltr hrr hrz hlta
            rintro k' F w8 ⟨f0, f2, f3, f4, f8, f10, hk1, hk2, h8⟩
            have hltg := h8.g.lt
            have hkl : k' < (putK set1 lo.toNat k').length ∨ 256 ≤ k' := by rw [putK_len, q6]; omega
            rcases Nat.lt_or_ge hi2.toNat k' with hend | hend
            · obtain rfl : k' = hi2.toNat + 1 := by omega
              have c1 : decide ((hi2.toNat : Int) + 1 ≤ (hi2.toNat : Int)) = false := decide_eq_false (by omega)
              rw [putK_all] at h8
              repeat (first | refine qS ?_ | refine qB ?_ | refine qT rfl ?_ | refine qF rfl ?_ | ((first | refine qR rfl ?_ | refine qK ?_ | refine qE ?_ | refine qW ?_ | refine qM ?_); try simp -dsimp (maxSteps := 2000000) (disch := first | omega | (simp only [qZ] <;> omega) | fail) only [push_cast, ↓qP, ↓reduceIte, Nat.reduceEqDiff, Nat.reduceAdd, Nat.reduceMul, Nat.reduceSub, Nat.reduceLeDiff, Int.reduceToNat, reduceCtorEq, f0, f2, f3, f4, f8, f10, c1]) | (refine qA ?_ ?_; (first | omega | (simp only [qL]; omega) | (simp only [qD] at *; omega))))
              refine Again.mk k ⟨by simp [upd, f0], by simp [upd, f2], by simp [upd, f3], by simp [upd, f4], false, _, s3, by simp [upd], h8, by omega, by omega, ⟨hit1.symm⟩⟩ (by omega)
            · have c1 : decide ((k' : Int) ≤ (hi2.toNat : Int)) = true := decide_eq_true (by omega)
              have hcell : rdc w8 (w.heap.size + 1) k' = some (.bool ((putK set1 lo.toNat k').getD k' false)) := by
                rw [h8.g.rdc]; exact bools_get _ _ (by rw [putK_len, q6]; omega)
              repeat (first | refine qS ?_ | refine qB ?_ | refine qT rfl ?_ | refine qF rfl ?_ | ((first | refine qR rfl ?_ | refine qK ?_ | refine qE ?_ | refine qW ?_ | refine qM ?_); try simp -dsimp (maxSteps := 2000000) (disch := first | omega | (simp only [qZ] <;> omega) | fail) only [push_cast, ↓qP, ↓reduceIte, Nat.reduceEqDiff, Nat.reduceAdd, Nat.reduceMul, Nat.reduceSub, Nat.reduceLeDiff, Int.reduceToNat, reduceCtorEq, f0, f2, f3, f4, f8, f10, c1, hcell, h8.g.fz]) | (refine qA ?_ ?_; (first | omega | (simp only [qL]; omega) | (simp only [qD] at *; omega))))
              refine Again.mk (k' + 1) ⟨by simp [upd, f0], by simp [upd, f2], by simp [upd, f3], by simp [upd, f4], by simp [upd, f8], by simp [upd], by omega, by omega, ?_⟩ (by omega)
              rw [putK_succ _ _ _ (by rw [q6]; omega) hk1]
              exact h8.setg k' true
      · rw [if_neg (by rw [hr]; simp)] at hit1
        rcases Bool.eq_false_or_eq_true (decide ((s1.i : Int) + 1 < (l.length : Int))) with c1 | c1
        · rcases Bool.eq_false_or_eq_true (byteAt l s1.i == 45) with c2 | c2
          · have c3 : (byteAt l (s1.i + 1) == 93) = true := by rw [c1, c2] at hr; simpa using hr
            refine Wp.seq (Wp.draw [0, 1, 3, 7, 15, 0, 32, 96, 224, 480, 1023, 2047, 4095, 8191, 16383, 32767, 4095, 69631, 200703, 462847, 1048575, 2097151, 4194303, 8388607, 16777215, 33554431, 67108863, 134217727, 16777215, 285212671, 822083583, 1895825407, 4043309055, 8589934591, 17179869183, 34359738367] [] (.op 0 false false [] <| .op 1 false false [] <| .op 2 false false [] <| .op 3 false false [] <| .op 4 false false [] <| .op 5 false false [] <| .op 6 false false [] <| .op 7 false false [] <| .op 8 false false [] <| .op 9 false false [] <| .op 10 false false [] <| .op 11 false false [] <| .op 12 false false [] <| .op 13 false false [] <| .op 14 false false [] <| .op 15 false false [] <| .op 16 false false [] <| .op 17 false false [] <| .op 18 false false [] <| .op 19 false false [] <| .op 20 false false [] <| .op 21 false false [] <| .op 22 false false [] <| .op 23 false false [] <| .op 24 false false [] <| .op 25 false false [] <| .op 26 false false [] <| .op 27 false false [] <| .op 28 false false [] <| .op 29 false false [] <| .op 30 false false [] <| .op 31 false false [] <| .op 32 false false [] <| .op 33 false false [] <| .op 34 false false [] <| .op 35 false false [] <| .nil) mixed (by kernel_rfl) ?_)
            simp -dsimp (maxSteps := 2000000) (disch := first | omega | (simp only [qZ] <;> omega) | fail) only [push_cast, ↓qP, ↓reduceIte, Nat.reduceEqDiff, Nat.reduceAdd, Nat.reduceMul, Nat.reduceSub, Nat.reduceLeDiff, Int.reduceToNat, reduceCtorEq, h4.at_.rdc, f0, c1, e45, e93, c2, c3, hix]
            refine ⟨by simp at c1; omega, ?_⟩
            refine Sm.out ?_
            repeat (first | refine qS ?_ | refine qB ?_ | refine qT rfl ?_ | refine qF rfl ?_ | ((first | refine qR rfl ?_ | refine qK ?_ | refine qE ?_ | refine qW ?_ | refine qM ?_); try simp -dsimp (maxSteps := 2000000) (disch := first | omega | (simp only [qZ] <;> omega) | fail) only [push_cast, ↓qP, ↓reduceIte, Nat.reduceEqDiff, Nat.reduceAdd, Nat.reduceMul, Nat.reduceSub, Nat.reduceLeDiff, Int.reduceToNat, reduceCtorEq, f0, f2, f3, h4.at_.rdc, c1, c2, c3, e93, e45, hix]) | (refine qA ?_ ?_; (first | omega | (simp only [qL]; omega) | (simp only [qD] at *; omega))))
            exact Mid.mk ⟨by simp [upd, f0], by simp [upd, f2], by simp [upd, f3], by simp [upd, f4], by simp [upd, by8], by simp [upd], h4.drew, hit1⟩
          · refine Wp.seq (Wp.draw [0, 1, 3, 7, 15, 0, 32, 96, 224, 480, 1023, 2047, 4095, 8191, 16383, 32767, 4095, 69631, 200703, 462847, 1048575, 2097151, 4194303, 8388607, 16777215, 33554431, 67108863, 134217727, 16777215, 285212671, 822083583, 1895825407, 4043309055, 8589934591, 17179869183, 34359738367] [] (.op 0 false false [] <| .op 1 false false [] <| .op 2 false false [] <| .op 3 false false [] <| .op 4 false false [] <| .op 5 false false [] <| .op 6 false false [] <| .op 7 false false [] <| .op 8 false false [] <| .op 9 false false [] <| .op 10 false false [] <| .op 11 false false [] <| .op 12 false false [] <| .op 13 false false [] <| .op 14 false false [] <| .op 15 false false [] <| .op 16 false false [] <| .op 17 false false [] <| .op 18 false false [] <| .op 19 false false [] <| .op 20 false false [] <| .op 21 false false [] <| .op 22 false false [] <| .op 23 false false [] <| .op 24 false false [] <| .op 25 false false [] <| .op 26 false false [] <| .op 27 false false [] <| .op 28 false false [] <| .op 29 false false [] <| .op 30 false false [] <| .op 31 false false [] <| .op 32 false false [] <| .op 33 false false [] <| .op 34 false false [] <| .op 35 false false [] <| .nil) mixed (by kernel_rfl) ?_)
            simp -dsimp (maxSteps := 2000000) (disch := first | omega | (simp only [qZ] <;> omega) | fail) only [push_cast, ↓qP, ↓reduceIte, Nat.reduceEqDiff, Nat.reduceAdd, Nat.reduceMul, Nat.reduceSub, Nat.reduceLeDiff, Int.reduceToNat, reduceCtorEq, h4.at_.rdc, f0, c1, e45, e93, c2, hix]
            refine ⟨by simp at c1; omega, ?_⟩
            refine Sm.out ?_
            repeat (first | refine qS ?_ | refine qB ?_ | refine qT rfl ?_ | refine qF rfl ?_ | ((first | refine qR rfl ?_ | refine qK ?_ | refine qE ?_ | refine qW ?_ | refine qM ?_); try simp -dsimp (maxSteps := 2000000) (disch := first | omega | (simp only [qZ] <;> omega) | fail) only [push_cast, ↓qP, ↓reduceIte, Nat.reduceEqDiff, Nat.reduceAdd, Nat.reduceMul, Nat.reduceSub, Nat.reduceLeDiff, Int.reduceToNat, reduceCtorEq, f0, f2, f3, h4.at_.rdc, c1, c2, e93, e45, hix]) | (refine qA ?_ ?_; (first | omega | (simp only [qL]; omega) | (simp only [qD] at *; omega))))
            exact Mid.mk ⟨by simp [upd, f0], by simp [upd, f2], by simp [upd, f3], by simp [upd, f4], by simp [upd, by8], by simp [upd], h4.drew, hit1⟩
        · refine Wp.seq (Wp.draw [0, 1, 3, 7, 15, 0, 32, 96, 224, 480, 1023, 2047, 4095, 8191, 16383, 32767, 4095, 69631, 200703, 462847, 1048575, 2097151, 4194303, 8388607, 16777215, 33554431, 67108863, 134217727, 16777215, 285212671, 822083583, 1895825407, 4043309055, 8589934591, 17179869183, 34359738367] [] (.op 0 false false [] <| .op 1 false false [] <| .op 2 false false [] <| .op 3 false false [] <| .op 4 false false [] <| .op 5 false false [] <| .op 6 false false [] <| .op 7 false false [] <| .op 8 false false [] <| .op 9 false false [] <| .op 10 false false [] <| .op 11 false false [] <| .op 12 false false [] <| .op 13 false false [] <| .op 14 false false [] <| .op 15 false false [] <| .op 16 false false [] <| .op 17 false false [] <| .op 18 false false [] <| .op 19 false false [] <| .op 20 false false [] <| .op 21 false false [] <| .op 22 false false [] <| .op 23 false false [] <| .op 24 false false [] <| .op 25 false false [] <| .op 26 false false [] <| .op 27 false false [] <| .op 28 false false [] <| .op 29 false false [] <| .op 30 false false [] <| .op 31 false false [] <| .op 32 false false [] <| .op 33 false false [] <| .op 34 false false [] <| .op 35 false false [] <| .nil) mixed (by kernel_rfl) ?_)
          simp -dsimp (maxSteps := 2000000) (disch := first | omega | (simp only [qZ] <;> omega) | fail) only [push_cast, ↓qP, ↓reduceIte, Nat.reduceEqDiff, Nat.reduceAdd, Nat.reduceMul, Nat.reduceSub, Nat.reduceLeDiff, Int.reduceToNat, reduceCtorEq, h4.at_.rdc, f0, c1]
          refine Sm.out ?_
          repeat (first | refine qS ?_ | refine qB ?_ | refine qT rfl ?_ | refine qF rfl ?_ | ((first | refine qR rfl ?_ | refine qK ?_ | refine qE ?_ | refine qW ?_ | refine qM ?_); try simp -dsimp (maxSteps := 2000000) (disch := first | omega | (simp only [qZ] <;> omega) | fail) only [push_cast, ↓qP, ↓reduceIte, Nat.reduceEqDiff, Nat.reduceAdd, Nat.reduceMul, Nat.reduceSub, Nat.reduceLeDiff, Int.reduceToNat, reduceCtorEq, f0, f2, f3, h4.at_.rdc, c1]) | (refine qA ?_ ?_; (first | omega | (simp only [qL]; omega) | (simp only [qD] at *; omega))))
          exact Mid.mk ⟨by simp [upd, f0], by simp [upd, f2], by simp [upd, f3], by simp [upd, f4], by simp [upd, by8], by simp [upd], h4.drew, hit1⟩
    clear f0 f2 f3 f4
    intro F w4 hM
    obtain ⟨f0, f2, f3, f4, f6, f7, h5, hit2⟩ := hM.out
    have hlo := lo.toNat_lt
    have hltg := h5.g.lt
    have hcell : rdc w4 (w.heap.size + 1) lo.toNat = some (.bool (set1.getD lo.toNat false)) := by
      rw [h5.g.rdc]; exact bools_get _ _ (by rw [q6]; omega)
    cases single with
    | true =>
      repeat (first | refine qS ?_ | refine qB ?_ | refine qT rfl ?_ | refine qF rfl ?_ | ((first | refine qR rfl ?_ | refine qK ?_ | refine qE ?_ | refine qW ?_ | refine qM ?_); try simp -dsimp (maxSteps := 2000000) (disch := first | omega | (simp only [qZ] <;> omega) | fail) only [push_cast, ↓qP, ↓reduceIte, Nat.reduceEqDiff, Nat.reduceAdd, Nat.reduceMul, Nat.reduceSub, Nat.reduceLeDiff, Int.reduceToNat, reduceCtorEq, f0, f2, f3, f4, f6, f7, hcell, h5.g.fz]) | (refine qA ?_ ?_; (first | omega | (simp only [qL]; omega) | (simp only [qD] at *; omega))))
      exact Again.mk k ⟨by simp [upd, f0], by simp [upd, f2], by simp [upd, f3], by simp [upd, f4], false, _, s1, by simp [upd], h5.setg lo.toNat true, by omega, by omega, ⟨hit2.symm⟩⟩ (by omega)
    | false =>
      repeat (first | refine qS ?_ | refine qB ?_ | refine qT rfl ?_ | refine qF rfl ?_ | ((first | refine qR rfl ?_ | refine qK ?_ | refine qE ?_ | refine qW ?_ | refine qM ?_); try simp -dsimp (maxSteps := 2000000) (disch := first | omega | (simp only [qZ] <;> omega) | fail) only [push_cast, ↓qP, ↓reduceIte, Nat.reduceEqDiff, Nat.reduceAdd, Nat.reduceMul, Nat.reduceSub, Nat.reduceLeDiff, Int.reduceToNat, reduceCtorEq, f0, f2, f3, f4, f6, f7]) | (refine qA ?_ ?_; (first | omega | (simp only [qL]; omega) | (simp only [qD] at *; omega))))
      exact Again.mk k ⟨by simp [upd, f0], by simp [upd, f2], by simp [upd, f3], by simp [upd, f4], false, _, s1, by simp [upd], h5, by omega, by omega, ⟨hit2.symm⟩⟩ (by omega)
  clear f0 f2 f3 f4 h1
  intro F w1 hM
  obtain ⟨f2, f3, f4, set, s3, rfl, h1⟩ := hM.out
  repeat (first | refine qS ?_ | refine qB ?_ | refine qT rfl ?_ | refine qF rfl ?_ | ((first | refine qR rfl ?_ | refine qK ?_ | refine qE ?_ | refine qW ?_ | refine qM ?_); try simp -dsimp (maxSteps := 2000000) (disch := first | omega | (simp only [qZ] <;> omega) | fail) only [push_cast, ↓qP, ↓reduceIte, Nat.reduceEqDiff, Nat.reduceAdd, Nat.reduceMul, Nat.reduceSub, Nat.reduceLeDiff, Int.reduceToNat, reduceCtorEq, f2, f3, f4]) | (refine qA ?_ ?_; (first | omega | (simp only [qL]; omega) | (simp only [qD] at *; omega))))
  refine Wp.loop (α := Nat) (fun k F w2 => ∃ A n cap, F 2 = .pointer (some ⟨w.heap.size, 0, none⟩) ∧ F 3 = .slice (some ⟨w.heap.size + 1, 0, none⟩) 256 256 ∧ F 4 = .bool nt ∧ F 11 = .slice A n cap ∧ F 12 = .int .i64 k ∧ k ≤ 256 ∧
      Own w2 5 1 A n cap (by8s (bytesK set nt k)) ∧ n = (bytesK set nt k).length ∧ (∀ g, bk A = some g → w.heap.size + 1 < g) ∧ Br w a l s3 set w2) (fun k => 256 - k) 0
    ⟨none, 0, 0, by simp [upd, f2], by simp [upd, f3], by simp [upd, f4], by simp [upd], by simp [upd], by omega, Own.nil _ _ _, rfl, by simp [bk], h1⟩ ?_
  clear f2 f3 f4 h1
  rintro k F w2 ⟨A, n, cap, f2, f3, f4, f11, f12, hk, hown, hn, hnew, h1⟩
  have hltg := h1.g.lt
  by_cases hlt256 : k < 256
  · have c1 : decide ((k : Int) < 256) = true := decide_eq_true (by omega)
    have hcell : rdc w2 (w.heap.size + 1) k = some (.bool (set.getD k false)) := by
      rw [h1.g.rdc]; exact bools_get _ _ (by rw [h1.len]; omega)
    have hsucc := bytesK_succ set nt k
    have hnl := bytesK_len set nt k
    rcases Bool.eq_false_or_eq_true (!(set.getD k false == nt)) with hc | hc
    · rw [if_pos (show (set.getD k false != nt) = true from hc)] at hsucc
      repeat (first | refine qS ?_ | refine qB ?_ | refine qT rfl ?_ | refine qF rfl ?_ | ((first | refine qR rfl ?_ | refine qK ?_ | refine qE ?_ | refine qW ?_ | refine qM ?_); try simp -dsimp (maxSteps := 2000000) (disch := first | omega | (simp only [qZ] <;> omega) | fail) only [push_cast, ↓qP, ↓reduceIte, Nat.reduceEqDiff, Nat.reduceAdd, Nat.reduceMul, Nat.reduceSub, Nat.reduceLeDiff, Int.reduceToNat, reduceCtorEq, f2, f3, f4, f11, f12, c1, hcell, hc]) | (refine qA ?_ ?_; (first | omega | (simp only [qL]; omega) | (simp only [qD] at *; omega))))
      refine V_append (m := 1) _ _ _ rfl mk_63 rfl (hown.alloc _) rfl [.int .u8 k] ?r rfl (by omega) (by omega) ?kk
      case r => simp -dsimp (maxSteps := 2000000) (disch := first | omega | (simp only [qZ] <;> omega) | fail) only [push_cast, ↓qP, ↓reduceIte, Nat.reduceEqDiff, Nat.reduceAdd, Nat.reduceMul, Nat.reduceSub, Nat.reduceLeDiff, Int.reduceToNat, reduceCtorEq]
      case kk =>
        intro A' cap' w3 hown' hgrow hat
        have h2 := h1.grown hgrow hnew
        have hu : by8s [UInt8.ofNat k] = [.int .u8 k] := by simp [by8s, by8]; omega
        refine Sm.out ?_
        repeat (first | refine qS ?_ | refine qB ?_ | refine qT rfl ?_ | refine qF rfl ?_ | ((first | refine qR rfl ?_ | refine qK ?_ | refine qE ?_ | refine qW ?_ | refine qM ?_); try simp -dsimp (maxSteps := 2000000) (disch := first | omega | (simp only [qZ] <;> omega) | fail) only [push_cast, ↓qP, ↓reduceIte, Nat.reduceEqDiff, Nat.reduceAdd, Nat.reduceMul, Nat.reduceSub, Nat.reduceLeDiff, Int.reduceToNat, reduceCtorEq, f2, f3, f4, f11, f12]) | (refine qA ?_ ?_; (first | omega | (simp only [qL]; omega) | (simp only [qD] at *; omega))))
        refine Again.mk (k + 1) ⟨A', n + 1, cap', by simp [upd, f2], by simp [upd, f3], by simp [upd, f4], by simp [upd], by simp [upd], by omega, ?_, by rw [hsucc]; simp; omega, ?_, h2⟩ (by omega)
        · rw [hsucc, by8s_append, hu]; exact hown'
        · intro g hg
          rcases hat with h | h
          · exact hnew g (h ▸ hg)
          · rw [h] at hg; simp at hg; subst hg; omega
    · rw [if_neg (show ¬ (set.getD k false != nt) = true from by rw [show (set.getD k false != nt) = false from hc]; simp)] at hsucc
      repeat (first | refine qS ?_ | refine qB ?_ | refine qT rfl ?_ | refine qF rfl ?_ | ((first | refine qR rfl ?_ | refine qK ?_ | refine qE ?_ | refine qW ?_ | refine qM ?_); try simp -dsimp (maxSteps := 2000000) (disch := first | omega | (simp only [qZ] <;> omega) | fail) only [push_cast, ↓qP, ↓reduceIte, Nat.reduceEqDiff, Nat.reduceAdd, Nat.reduceMul, Nat.reduceSub, Nat.reduceLeDiff, Int.reduceToNat, reduceCtorEq, f2, f3, f4, f11, f12, c1, hcell, hc]) | (refine qA ?_ ?_; (first | omega | (simp only [qL]; omega) | (simp only [qD] at *; omega))))
      exact Again.mk (k + 1) ⟨A, n, cap, by simp [upd, f2], by simp [upd, f3], by simp [upd, f4], by simp [upd, f11], by simp [upd], by omega, by rw [hsucc]; exact hown, by rw [hsucc]; exact hn, hnew, h1⟩ (by omega)
  · have c1 : decide ((k : Int) < 256) = false := decide_eq_false (by omega)
    have hkb : bytesK set nt k = bytesOf set nt := by rw [show k = 256 by omega]; rfl
    rw [hkb] at hown hn
    have hltr := h1.r.lt
    have hrr := h1.r.rdc
    have hrz := h1.r.fz
    repeat (first | refine qS ?_ | refine qB ?_ | refine qT rfl ?_ | refine qF rfl ?_ | ((first | refine qR rfl ?_ | refine qK ?_ | refine qE ?_ | refine qW ?_ | refine qM ?_); try simp -dsimp (maxSteps := 2000000) (disch := first | omega | (simp only [qZ] <;> omega) | fail) only [push_cast, ↓qP, ↓reduceIte, Nat.reduceEqDiff, Nat.reduceAdd, Nat.reduceMul, Nat.reduceSub, Nat.reduceLeDiff, Int.reduceToNat, reduceCtorEq, f2, f3, f4, f11, f12, c1]) | (refine qA ?_ ?_; (first | omega | (simp only [qL]; omega) | (simp only [qD] at *; omega))))
    refine V_str 63 9 _ rfl se_63 ik_5 isStr_9 (bytesOf set nt) rfl hn (by8s_str hown hn) ?_
    refine Sm.out ?_
    repeat (first | refine qS ?_ | refine qB ?_ | refine qT rfl ?_ | refine qF rfl ?_ | ((first | refine qR rfl ?_ | refine qK ?_ | refine qE ?_ | refine qW ?_ | refine qM ?_); try simp -dsimp (maxSteps := 2000000) (disch := first | omega | (simp only [qZ] <;> omega) | fail) only [push_cast, ↓qP, ↓reduceIte, Nat.reduceEqDiff, Nat.reduceAdd, Nat.reduceMul, Nat.reduceSub, Nat.reduceLeDiff, Int.reduceToNat, reduceCtorEq, f2, hrr, hrz]) | (refine qA ?_ ?_; (first | omega | (simp only [qL]; omega) | (simp only [qD] at *; omega))))
    exact h1.out (t := .node opSet (bytesOf set nt) [] 0 0) (cs := [.string (B opSet), .string (B (bytesOf set nt)), .slice none 0 0, .int .i64 0, .int .i64 0]) hbr (by simp [upd, f2]) rfl (fun w' => set_is _ _ _ _)
end
end Go.Proofs.Ytddichibegppjaa

/- The reference's reader of expressions: pieces. -/
namespace Go.Proofs.Ytddichibegppjaa
open Go Go.VC

def CA (l : List UInt8) (a k : Nat) : Prop := ∀ s w, At3 w a l s → St3 l s → s.f = 0 → s.i < l.length → (∃ r, atom3 l k s = some r) → Calls Try.prog 85 #[.pointer (some ⟨a, 0, none⟩)] w (OutRe w a l (atom3 l k s))
def CP (l : List UInt8) (a k : Nat) : Prop := ∀ s w, At3 w a l s → St3 l s → (∃ r, pieces3 l k s = some r) → Calls Try.prog 70 #[.pointer (some ⟨a, 0, none⟩)] w (OutRe w a l (pieces3 l k s))
def CB (l : List UInt8) (a k : Nat) : Prop := ∀ s w, At3 w a l s → St3 l s → (∃ r, branches3 l k s = some r) → Calls Try.prog 49 #[.pointer (some ⟨a, 0, none⟩)] w (OutRe w a l (branches3 l k s))

theorem post_out {w w1 : World} {a : Nat} {l : List UInt8} {s' : S3} {r : Option (Re × S3)} {t : Re} {cs : List Value} {F : Fr} {D : Nat → Prop} (hat : At3 w1 a l s') (hb : Blk w1 w.heap.size 33 zRe) (hkp : Kp (· = a) w w1) (hlt : a < w.heap.size)
    (hr : r = some (t, s')) (hF : F 2 = .pointer (some ⟨w.heap.size, 0, none⟩)) (ht : IsRe w1 D t cs) (hD : ∀ b, D b → w.heap.size < b ∧ b < w1.heap.size) :
    post Try.prog [.cell 2 33] (OutRe w a l r) .mk .ret F (w1.setCells w.heap.size 0 cs) := by
  have h2 := (hb.setAll (vs := cs) ht.len).rdn
  rw [ht.len] at h2
  have hk : Kp (· = w.heap.size) w1 (w1.setCells w.heap.size 0 cs) := (Kp.refl (· = w.heap.size) w1).setCells (fun _ => rfl) cs 0
  exact post_cell hF tk_33 h2 ⟨t, s', cs, hr, rfl, ht.Kp hk (fun b hb e => by have := hD b hb; omega) (fun b hb => by have := hD b hb; have := hk.size; omega), Blk.farCells (Nat.ne_of_lt hlt) _ _ _ hat, Kp.setCells hkp (fun h' => absurd h' (Nat.lt_irrefl _)) _ _⟩

section
variable {a : Nat} {l : List UInt8} {s s' : S3} {w w1 w2 : World}

theorem pieces3_any (k : Nat) (hl : l.length ≤ 1000000) (ih : ∀ j, j < k → CA l a j) : CP l a k := by
  intro s w h hs hex
  obtain ⟨k, rfl⟩ : ∃ k', k = k' + 1 := by
    cases k with
    | zero => obtain ⟨r, hr⟩ := hex; simp [pieces3] at hr
    | succ k => exact ⟨k, rfl⟩
  have hps : pieces3 l (k + 1) s = match piece3 l k [] s with
    | none => none
    | some (none, s1) => some (Re.zero, s1)
    | some (some [e], s1) => some (e, s1)
    | some (some es, s1) => some (.node opCat [] es 0 0, s1) := by simp only [pieces3]; rfl
  rw [hps] at hex ⊢
  obtain ⟨R, hR⟩ : ∃ R, piece3 l k [] s = some R := by
    cases hp : piece3 l k [] s with
    | none => rw [hp] at hex; obtain ⟨r, hr⟩ := hex; cases hr
    | some R => exact ⟨R, rfl⟩
  rw [hR]
  clear hex hps
  have hlt := h.lt
  refine enter (n := 67) (args := [.pointer (some ⟨a, 0, none⟩)]) Try.func70 rfl rfl rfl (by simp) ?_
  refine Wp.seq (Wp.region rfl ?_)
  simp -dsimp (maxSteps := 2000000) (disch := first | omega | (simp only [qZ] <;> omega) | fail) only [push_cast, ↓qP, ↓reduceIte, seval]
  refine Wp.seq (Wp.region rfl ?_)
  simp -dsimp (maxSteps := 2000000) (disch := first | omega | (simp only [qZ] <;> omega) | fail) only [push_cast, ↓qP, ↓reduceIte, seval]
  refine Wp.cutQ (fun F' w' => F' 2 = .pointer (some ⟨w.heap.size, 0, none⟩) ∧ ∃ es s1 A n cap N, F' 3 = .slice A n cap ∧ R = (some es, s1) ∧ Ls w a l s1 es A n cap N w') ?_ ?_
  · repeat (first | refine qS ?_ | refine qB ?_ | refine qT rfl ?_ | refine qF rfl ?_ | ((first | refine qR rfl ?_ | refine qK ?_ | refine qE ?_ | refine qW ?_ | refine qM ?_); try simp -dsimp (maxSteps := 2000000) (disch := first | omega | (simp only [qZ] <;> omega) | fail) only [push_cast, ↓qP, ↓reduceIte, seval]) | (refine qA ?_ ?_; (first | omega | (simp only [qL]; omega) | (simp only [qD] at *; omega))))
    refine Wp.loop (α := Nat) (fun j F w2 => j ≤ k ∧ F 0 = .pointer (some ⟨a, 0, none⟩) ∧ F 2 = .pointer (some ⟨w.heap.size, 0, none⟩) ∧ ∃ es s1 A n cap N, F 3 = .slice A n cap ∧ Ls w a l s1 es A n cap N w2 ∧ St3 l s1 ∧ (s1.f = 0 → es.length ≤ s1.i) ∧ Hide (piece3 l j es s1 = some R)) (fun j => j) k
      ⟨Nat.le_refl _, by simp [upd, arg], by simp [upd], [], s, none, 0, 0, w.heap.size + 1, by simp [upd], ⟨h.alloc _, Blk.new _ _ _, ⟨[], Own.nil _ _ _, rfl⟩, rfl, by simp [bk], (Kp.refl _ w).alloc _, hlt, by omega, by simp⟩, hs, fun _ => Nat.zero_le _, ⟨hR⟩⟩ ?_
    clear h hs hR
    rintro j F w2 ⟨hjk, f0, f2, es, s1, A, n, cap, N, f3, h1, hs, hei, hpc⟩
    obtain ⟨j, rfl⟩ : ∃ j', j = j' + 1 := by
      cases j with
      | zero => have := hpc.out; simp [piece3] at this
      | succ j => exact ⟨j, rfl⟩
    have hpc1 := hpc.out
    simp only [piece3] at hpc1
    clear hpc
    have e124 : (((byteAt l s1.i).toNat : Int) != 124) = !(byteAt l s1.i == 124) := congrArg (! ·) (u8_eq' _ 124)
    have e41 : (((byteAt l s1.i).toNat : Int) != 41) = !(byteAt l s1.i == 41) := congrArg (! ·) (u8_eq' _ 41)
    refine Wp.cutQ (fun F w4 => F 0 = .pointer (some ⟨a, 0, none⟩) ∧ F 2 = .pointer (some ⟨w.heap.size, 0, none⟩) ∧ F 3 = .slice A n cap ∧ Ls w a l s1 es A n cap N w4 ∧ (more3 l s1 && !byteAt l s1.i == 124 && !byteAt l s1.i == 41) = true) ?_ ?_
    · repeat (first | refine qS ?_ | refine qB ?_ | refine qT rfl ?_ | refine qF rfl ?_ | ((first | refine qR rfl ?_ | refine qK ?_ | refine qE ?_ | refine qW ?_ | refine qM ?_); try simp -dsimp (maxSteps := 2000000) (disch := first | omega | (simp only [qZ] <;> omega) | fail) only [push_cast, ↓qP, ↓reduceIte, seval, f0]) | (refine qA ?_ ?_; (first | omega | (simp only [qL]; omega) | (simp only [qD] at *; omega))))
      refine CallV.of isCall_71 (more3_any h1.at_) ?_
      rintro _ _ ⟨rfl, rfl⟩
      rcases Bool.eq_false_or_eq_true (more3 l s1) with hm | hm
      · obtain ⟨hf0, hlt1⟩ := (more3_iff l s1).1 hm
        refine Sm.out ?_
        repeat (first | refine qS ?_ | refine qB ?_ | refine qT rfl ?_ | refine qF rfl ?_ | ((first | refine qR rfl ?_ | refine qK ?_ | refine qE ?_ | refine qW ?_ | refine qM ?_); try simp -dsimp (maxSteps := 2000000) (disch := first | omega | (simp only [qZ] <;> omega) | fail) only [push_cast, ↓qP, ↓reduceIte, seval, f0, hm]) | (refine qA ?_ ?_; (first | omega | (simp only [qL]; omega) | (simp only [qD] at *; omega))))
        refine CallV.of isCall_72 (peek3 h1.at_.drew hlt1) ?_
        rintro _ _ ⟨rfl, rfl⟩
        rcases Bool.eq_false_or_eq_true (!byteAt l s1.i == 124) with h124 | h124
        · refine Sm.out ?_
          repeat (first | refine qS ?_ | refine qB ?_ | refine qT rfl ?_ | refine qF rfl ?_ | ((first | refine qR rfl ?_ | refine qK ?_ | refine qE ?_ | refine qW ?_ | refine qM ?_); try simp -dsimp (maxSteps := 2000000) (disch := first | omega | (simp only [qZ] <;> omega) | fail) only [push_cast, ↓qP, ↓reduceIte, seval, f0, e124, h124]) | (refine qA ?_ ?_; (first | omega | (simp only [qL]; omega) | (simp only [qD] at *; omega))))
          refine CallV.of isCall_72 (peek3 h1.at_.drew.drew hlt1) ?_
          rintro _ _ ⟨rfl, rfl⟩
          rcases Bool.eq_false_or_eq_true (!byteAt l s1.i == 41) with h41 | h41
          · refine Sm.out ?_
            repeat (first | refine qS ?_ | refine qB ?_ | refine qT rfl ?_ | refine qF rfl ?_ | ((first | refine qR rfl ?_ | refine qK ?_ | refine qE ?_ | refine qW ?_ | refine qM ?_); try simp -dsimp (maxSteps := 2000000) (disch := first | omega | (simp only [qZ] <;> omega) | fail) only [push_cast, ↓qP, ↓reduceIte, seval, f0, e41, h41]) | (refine qA ?_ ?_; (first | omega | (simp only [qL]; omega) | (simp only [qD] at *; omega))))
            exact Mid.mk ⟨by simp [upd, f0], by simp [upd, f2], by simp [upd, f3], h1.drew.drew.drew, by rw [hm, h124, h41]; rfl⟩
          · rw [if_neg (by rw [hm, h124, h41]; simp)] at hpc1
            refine Sm.out ?_
            repeat (first | refine qS ?_ | refine qB ?_ | refine qT rfl ?_ | refine qF rfl ?_ | ((first | refine qR rfl ?_ | refine qK ?_ | refine qE ?_ | refine qW ?_ | refine qM ?_); try simp -dsimp (maxSteps := 2000000) (disch := first | omega | (simp only [qZ] <;> omega) | fail) only [push_cast, ↓qP, ↓reduceIte, seval, f0, e41, h41]) | (refine qA ?_ ?_; (first | omega | (simp only [qL]; omega) | (simp only [qD] at *; omega))))
            exact Mid.mk ⟨by simp [upd, f2], es, s1, A, n, cap, N, by simp [upd, f3], by injection hpc1 with hpc1; exact hpc1.symm, h1.drew.drew.drew⟩
        · rw [if_neg (by rw [hm, h124]; simp)] at hpc1
          refine Sm.out ?_
          repeat (first | refine qS ?_ | refine qB ?_ | refine qT rfl ?_ | refine qF rfl ?_ | ((first | refine qR rfl ?_ | refine qK ?_ | refine qE ?_ | refine qW ?_ | refine qM ?_); try simp -dsimp (maxSteps := 2000000) (disch := first | omega | (simp only [qZ] <;> omega) | fail) only [push_cast, ↓qP, ↓reduceIte, seval, f0, e124, h124]) | (refine qA ?_ ?_; (first | omega | (simp only [qL]; omega) | (simp only [qD] at *; omega))))
          exact Mid.mk ⟨by simp [upd, f2], es, s1, A, n, cap, N, by simp [upd, f3], by injection hpc1 with hpc1; exact hpc1.symm, h1.drew.drew⟩
      · rw [if_neg (by rw [hm]; simp)] at hpc1
        refine Sm.out ?_
        repeat (first | refine qS ?_ | refine qB ?_ | refine qT rfl ?_ | refine qF rfl ?_ | ((first | refine qR rfl ?_ | refine qK ?_ | refine qE ?_ | refine qW ?_ | refine qM ?_); try simp -dsimp (maxSteps := 2000000) (disch := first | omega | (simp only [qZ] <;> omega) | fail) only [push_cast, ↓qP, ↓reduceIte, seval, f0, hm]) | (refine qA ?_ ?_; (first | omega | (simp only [qL]; omega) | (simp only [qD] at *; omega))))
        exact Mid.mk ⟨by simp [upd, f2], es, s1, A, n, cap, N, by simp [upd, f3], by injection hpc1 with hpc1; exact hpc1.symm, h1.drew⟩
    clear f0 f2 f3 h1 e124 e41
    intro F w3 hM
    obtain ⟨f0, f2, f3, h1, hcond⟩ := hM.out
    rw [if_pos hcond] at hpc1
    have hm := hcond
    simp only [Bool.and_eq_true] at hm
    obtain ⟨hf0, hi1⟩ := (more3_iff l s1).1 hm.1.1
    clear hcond hm hM
    have hei' := hei hf0
    clear hei
    have hsi := hs.2.2.2 hf0
    repeat (first | refine qS ?_ | refine qB ?_ | refine qT rfl ?_ | refine qF rfl ?_ | ((first | refine qR rfl ?_ | refine qK ?_ | refine qE ?_ | refine qW ?_ | refine qM ?_); try simp -dsimp (maxSteps := 2000000) (disch := first | omega | (simp only [qZ] <;> omega) | fail) only [push_cast, ↓qP, ↓reduceIte, seval, f0]) | (refine qA ?_ ?_; (first | omega | (simp only [qL]; omega) | (simp only [qD] at *; omega))))
    refine CallV.of isCall_84 (repeat3_any h1.at_ hl (by omega)) ?_
    rintro _ w4 ⟨rfl, h2, k2⟩
    obtain ⟨r1, r2, r3, r4, r5, r6⟩ := repeat3_ok l s1 hsi
    have h3 := h1.keep h2 k2
    clear h1 h2 k2
    generalize repeat3 l s1 = rp at *
    obtain ⟨⟨lo, hi, b⟩, s2⟩ := rp
    simp only at hpc1 h3 r6
    clear r1 r2 r3 r4 r5
    replace r6 : Hide _ := ⟨r6⟩
    have hlta := h3.at_.lt
    have hltr := h3.r.lt
    have hrr := h3.r.rdc
    have hrz := h3.r.fz
    cases b with
    | true =>
      rw [if_pos rfl, if_pos (fail_f _ (by decide))] at hpc1
      refine Sm.out ?_
      repeat (first | refine qS ?_ | refine qB ?_ | refine qT rfl ?_ | refine qF rfl ?_ | ((first | refine qR rfl ?_ | refine qK ?_ | refine qE ?_ | refine qW ?_ | refine qM ?_); try simp -dsimp (maxSteps := 2000000) (disch := first | omega | (simp only [qZ] <;> omega) | fail) only [push_cast, ↓qP, ↓reduceIte, seval, f0, f2, f3]) | (refine qA ?_ ?_; (first | omega | (simp only [qL]; omega) | (simp only [qD] at *; omega))))
      refine CallV.of isCall_50 (fail3 h3.at_ 3) ?_
      rintro _ w5 ⟨rfl, h4, k4⟩
      have h5 := h3.keep h4 k4
      have hff : ((s2.fail 3).f != 0) = true := by simpa using fail_f s2 (k := 3) (by decide)
      clear h3 h4 k4 hlta hltr hrr hrz r6
      generalize s2.fail 3 = s5 at *
      have hlta := h5.at_.lt
      have hltr := h5.r.lt
      have hrr := h5.r.rdc
      have hrz := h5.r.fz
      refine Sm.out ?_
      repeat (first | refine qS ?_ | refine qB ?_ | refine qT rfl ?_ | refine qF rfl ?_ | ((first | refine qR rfl ?_ | refine qK ?_ | refine qE ?_ | refine qW ?_ | refine qM ?_); try simp -dsimp (maxSteps := 2000000) (disch := first | omega | (simp only [qZ] <;> omega) | fail) only [push_cast, ↓qP, ↓reduceIte, seval, f0, f2, f3, h5.at_.rdc, hff, hrr, hrz]) | (refine qA ?_ ?_; (first | omega | (simp only [qL]; omega) | (simp only [qD] at *; omega))))
      injection hpc1 with hpc1
      subst hpc1
      exact post_out (w1 := w5) (cs := zRe) h5.at_ h5.r h5.kp h5.lt rfl (by simp [upd, f2]) (zRe_is _ (fun _ => False)) (fun b h => h.elim)
    | false =>
      simp only [Bool.false_eq_true, if_false] at hpc1
      rcases Bool.eq_false_or_eq_true (s2.f != 0) with hff | hff
      · rw [if_pos (by simpa using hff)] at hpc1
        refine Sm.out ?_
        repeat (first | refine qS ?_ | refine qB ?_ | refine qT rfl ?_ | refine qF rfl ?_ | ((first | refine qR rfl ?_ | refine qK ?_ | refine qE ?_ | refine qW ?_ | refine qM ?_); try simp -dsimp (maxSteps := 2000000) (disch := first | omega | (simp only [qZ] <;> omega) | fail) only [push_cast, ↓qP, ↓reduceIte, seval, f0, f2, f3, h3.at_.rdc, hff, hrr, hrz]) | (refine qA ?_ ?_; (first | omega | (simp only [qL]; omega) | (simp only [qD] at *; omega))))
        injection hpc1 with hpc1
        subst hpc1
        exact post_out (w1 := w4) (cs := zRe) h3.at_ h3.r h3.kp h3.lt rfl (by simp [upd, f2]) (zRe_is _ (fun _ => False)) (fun b h => h.elim)
      rw [if_neg (by simpa using hff)] at hpc1
      obtain rfl : s2 = s1 := (r6.out rfl).resolve_right (by simpa using hff)
      clear r6
      refine Sm.out ?_
      repeat (first | refine qS ?_ | refine qB ?_ | refine qT rfl ?_ | refine qF rfl ?_ | ((first | refine qR rfl ?_ | refine qK ?_ | refine qE ?_ | refine qW ?_ | refine qM ?_); try simp -dsimp (maxSteps := 2000000) (disch := first | omega | (simp only [qZ] <;> omega) | fail) only [push_cast, ↓qP, ↓reduceIte, seval, f0, f2, f3, h3.at_.rdc, hff]) | (refine qA ?_ ?_; (first | omega | (simp only [qL]; omega) | (simp only [qD] at *; omega))))
      obtain ⟨⟨t, s1⟩, hat⟩ : ∃ p, atom3 l j s2 = some p := by
        cases hp : atom3 l j s2 with
        | none => rw [hp] at hpc1; cases hpc1
        | some p => exact ⟨p, rfl⟩
      rw [hat] at hpc1
      simp only [] at hpc1
      obtain ⟨m1, m2⟩ := (reads_ok l j).1 _ _ _ hs hf0 hi1 hat
      have hs1 := m1.st hs
      refine CallV.of isCall_85 (ih j (by omega) s2 w4 h3.at_ hs hf0 hi1 ⟨_, hat⟩) ?_
      rintro _ w5 ⟨t', s1', cs, he, rfl, hre, h4, k4⟩
      rw [hat] at he
      injection he with he
      injection he with he1 he2
      subst he1; subst he2
      have h5 := h3.keep h4 k4
      have hN2 := h3.N2
      clear h3 h4 k4 hlta hltr hrr hrz hat
      obtain ⟨o, se, A1, c1, c2, lo1, hi1', rfl⟩ := hre.form
      have hlta := h5.at_.lt
      have hltr := h5.r.lt
      refine Sm.out ?_
      repeat (first | ((fail_if_success (first | refine qX (n := 2) ?_)); refine qS ?_) | refine qB ?_ | refine qT rfl ?_ | refine qF rfl ?_ | ((first | refine qR rfl ?_ | refine qK ?_ | refine qE ?_ | refine qW ?_ | refine qM ?_); try simp -dsimp (maxSteps := 2000000) (disch := first | omega | (simp only [qZ] <;> omega) | fail) only [push_cast, ↓qP, ↓reduceIte, seval, f0, f2, f3]) | (refine qA ?_ ?_; (first | omega | (simp only [qL]; omega) | (simp only [qD] at *; omega))))
      have hqN := h5.N2
      obtain ⟨q, hq⟩ : ∃ q, q = w5.heap.size := ⟨_, rfl⟩
      rw [← hq]
      refine Wp.gen (w := (w5.alloc (.cells zRe.toArray 33)).setCells q 0 [.string (B o), .string (B se), .slice A1 c1 c2, .int .i64 lo1, .int .i64 hi1']) (A := fun W => Ls w a l s1 es A n cap N W ∧ Blk W q 33 [.string (B o), .string (B se), .slice A1 c1 c2, .int .i64 lo1, .int .i64 hi1'] ∧ IsRe W (fun b => N ≤ b ∧ b < W.heap.size ∧ b ≠ q) t [.string (B o), .string (B se), .slice A1 c1 c2, .int .i64 lo1, .int .i64 hi1']) ?_ ?_
      · have hk : Kp (· = q) w5 ((w5.alloc (.cells zRe.toArray 33)).setCells q 0 [.string (B o), .string (B se), .slice A1 c1 c2, .int .i64 lo1, .int .i64 hi1']) := ((Kp.refl (· = q) w5).alloc _).setCells (fun _ => rfl) [.string (B o), .string (B se), .slice A1 c1 c2, .int .i64 lo1, .int .i64 hi1'] 0
        exact ⟨(h5.alloc _).setq (by omega) [.string (B o), .string (B se), .slice A1 c1 c2, .int .i64 lo1, .int .i64 hi1'], Blk.setAll (cs := zRe) (vs := [.string (B o), .string (B se), .slice A1 c1 c2, .int .i64 lo1, .int .i64 hi1']) (by rw [hq]; exact Blk.new w5 33 zRe) rfl, hre.Kp hk (fun b hb e => by have := hb.2; omega) (fun b hb => ⟨by have := hb.1; omega, Nat.lt_of_lt_of_le hb.2 hk.size, by have := hb.2; omega⟩)⟩
      rw [hq]
      clear h5 hre hlta hltr
      rintro w6 ⟨h5, hbq, hre⟩
      generalize w5.heap.size = q at *
      subst hq
      obtain ⟨⟨e', s3⟩, hR2⟩ : ∃ p, reps3 l (l.length + 2) t s1 = some p := by
        cases hp : reps3 l (l.length + 2) t s1 with
        | none => rw [hp] at hpc1; cases hpc1
        | some p => exact ⟨p, rfl⟩
      rw [hR2] at hpc1
      simp only [] at hpc1
      obtain ⟨j1, j2, j3, j4, j5⟩ := reps3_ok l _ _ _ _ _ (fun h => (m1.2.2 h).2.2) hR2
      have m3 : Mv l s1 s3 := ⟨j1, by have := hs1.2.2.1; have := hs1.2.1; omega, fun h => ⟨(j4 h).1, j3, (j4 h).2⟩⟩
      refine Wp.cut (fun F W => F 0 = .pointer (some ⟨a, 0, none⟩) ∧ F 2 = .pointer (some ⟨w.heap.size, 0, none⟩) ∧ F 3 = .slice A n cap ∧ F 7 = .pointer (some ⟨q, 0, none⟩) ∧ ∃ cs, Ls w a l s3 es A n cap N W ∧ Blk W q 33 cs ∧ IsRe W (fun b => N ≤ b ∧ b < W.heap.size ∧ b ≠ q) e' cs) ?_ ?_
      · repeat (first | refine qS ?_ | refine qB ?_ | refine qT rfl ?_ | refine qF rfl ?_ | ((first | refine qR rfl ?_ | refine qK ?_ | refine qE ?_ | refine qW ?_ | refine qM ?_); try simp -dsimp (maxSteps := 2000000) (disch := first | omega | (simp only [qZ] <;> omega) | fail) only [push_cast, ↓qP, ↓reduceIte, seval]) | (refine qA ?_ ?_; (first | omega | (simp only [qL]; omega) | (simp only [qD] at *; omega))))
        refine Wp.loop (α := Nat) (fun k F W => F 0 = .pointer (some ⟨a, 0, none⟩) ∧ F 2 = .pointer (some ⟨w.heap.size, 0, none⟩) ∧ F 3 = .slice A n cap ∧ F 7 = .pointer (some ⟨q, 0, none⟩) ∧ ∃ e1 s1 cs, Ls w a l s1 es A n cap N W ∧ Blk W q 33 cs ∧ IsRe W (fun b => N ≤ b ∧ b < W.heap.size ∧ b ≠ q) e1 cs ∧ Hide (s1.f = 0 → s1.i ≤ l.length) ∧ Hide (reps3 l k e1 s1 = some (e', s3))) (fun k => k) (l.length + 2)
          ⟨by simp [upd, f0], by simp [upd, f2], by simp [upd, f3], by simp [upd], t, s1, _, h5, hbq, hre, ⟨fun h => (m1.2.2 h).2.2⟩, ⟨hR2⟩⟩ ?_
        clear f0 f2 f3 h5 hbq hre m1 m2 m3 hs1 j1 j2 j3 j4 j5 hR2 hpc1 hs hf0 hi1 hsi hff
        rintro k F w7 ⟨f0, f2, f3, f7, e1, s1, cs, h5, hbq, hre, hsi, hrep⟩
        obtain ⟨k, rfl⟩ : ∃ k', k = k' + 1 := by
          cases k with
          | zero => have := hrep.out; simp [reps3] at this
          | succ k => exact ⟨k, rfl⟩
        have hrep1 := hrep.out
        simp only [reps3] at hrep1
        clear hrep
        have hlta := h5.at_.lt
        rcases Bool.eq_false_or_eq_true (s1.f == 0) with hf | hf
        · have hf0 : s1.f = 0 := by simpa using hf
          rw [if_neg (by simpa using hf0)] at hrep1
          have hi0 := hsi.out hf0
          repeat (first | refine qS ?_ | refine qB ?_ | refine qT rfl ?_ | refine qF rfl ?_ | ((first | refine qR rfl ?_ | refine qK ?_ | refine qE ?_ | refine qW ?_ | refine qM ?_); try simp -dsimp (maxSteps := 2000000) (disch := first | omega | (simp only [qZ] <;> omega) | fail) only [push_cast, ↓qP, ↓reduceIte, seval, f0, h5.at_.rdc, hf]) | (refine qA ?_ ?_; (first | omega | (simp only [qL]; omega) | (simp only [qD] at *; omega))))
          refine CallV.of isCall_84 (repeat3_any h5.at_ hl (by omega)) ?_
          rintro _ w8 ⟨rfl, h6, k6⟩
          obtain ⟨r1, r2, r3, r4, r5, r6⟩ := repeat3_ok l s1 hi0
          have h7 := h5.keep h6 k6
          have hN1 := h5.N1
          have hlta := h5.lt
          have hbq2 := k6.Blk hbq (by omega)
          have hre2 := hre.Kp (D' := fun b => N ≤ b ∧ b < w8.heap.size ∧ b ≠ q) k6 (fun b hb e => by have := hb.1; omega) (fun b hb => ⟨hb.1, Nat.lt_of_lt_of_le hb.2.1 k6.size, hb.2.2⟩)
          clear h5 h6 k6 hbq hre r1 r2 r4 r5 r6
          generalize repeat3 l s1 = rp at *
          obtain ⟨⟨lo, hi, b⟩, s2⟩ := rp
          simp only at hrep1 h7 r3
          obtain ⟨o, se, A1, c1, c2, lo1, hi1', rfl⟩ := hre2.form
          have hlta := h7.at_.lt
          have hltq := hbq2.lt
          cases b with
          | true =>
            rw [if_neg (by simp)] at hrep1
            refine Sm.out ?_
            repeat (first | refine qS ?_ | refine qB ?_ | refine qT rfl ?_ | refine qF rfl ?_ | ((first | refine qR rfl ?_ | refine qK ?_ | refine qE ?_ | refine qW ?_ | refine qM ?_); try simp -dsimp (maxSteps := 2000000) (disch := first | omega | (simp only [qZ] <;> omega) | fail) only [push_cast, ↓qP, ↓reduceIte, seval, f0, f2, f3, f7, hbq2.rdc, hbq2.fz]) | (refine qA ?_ ?_; (first | omega | (simp only [qL]; omega) | (simp only [qD] at *; omega))))
            have hk9 : Kp (· = q) w8 ((w8.alloc (.cells [.string (B o), .string (B se), .slice A1 c1 c2, .int .i64 lo1, .int .i64 hi1'].toArray 33)).setCells q 0 [.string (B opRep), .string (B []), .slice (some ⟨w8.heap.size, 0, none⟩) 1 1, .int .i64 lo, .int .i64 hi]) := ((Kp.refl (· = q) w8).alloc _).setCells (fun _ => rfl) [.string (B opRep), .string (B []), .slice (some ⟨w8.heap.size, 0, none⟩) 1 1, .int .i64 lo, .int .i64 hi] 0
            have h9 : Ls w a l s2 es A n cap N ((w8.alloc (.cells [.string (B o), .string (B se), .slice A1 c1 c2, .int .i64 lo1, .int .i64 hi1'].toArray 33)).setCells q 0 [.string (B opRep), .string (B []), .slice (some ⟨w8.heap.size, 0, none⟩) 1 1, .int .i64 lo, .int .i64 hi]) := (h7.alloc _).setq hqN _
            have hbq9 : Blk ((w8.alloc (.cells [.string (B o), .string (B se), .slice A1 c1 c2, .int .i64 lo1, .int .i64 hi1'].toArray 33)).setCells q 0 [.string (B opRep), .string (B []), .slice (some ⟨w8.heap.size, 0, none⟩) 1 1, .int .i64 lo, .int .i64 hi]) q 33 [.string (B opRep), .string (B []), .slice (some ⟨w8.heap.size, 0, none⟩) 1 1, .int .i64 lo, .int .i64 hi] := Blk.setAll (hbq2.alloc _) rfl
            have hre9 := IsRe.one_kid (m := w8.heap.size) (c := 1) (op := opRep) (set := []) (lo := lo) (hi := hi) (D' := fun b => N ≤ b ∧ b < ((w8.alloc (.cells [.string (B o), .string (B se), .slice A1 c1 c2, .int .i64 lo1, .int .i64 hi1'].toArray 33)).setCells q 0 [.string (B opRep), .string (B []), .slice (some ⟨w8.heap.size, 0, none⟩) 1 1, .int .i64 lo, .int .i64 hi]).heap.size ∧ b ≠ q)
              (Blk.farCells (b := q) (Nat.ne_of_gt hltq) [.string (B opRep), .string (B []), .slice (some ⟨w8.heap.size, 0, none⟩) 1 1, .int .i64 lo, .int .i64 hi] 0 _ (Blk.new w8 33 [.string (B o), .string (B se), .slice A1 c1 c2, .int .i64 lo1, .int .i64 hi1']))
              (hre2.Kp (D' := fun b => N ≤ b ∧ b < ((w8.alloc (.cells [.string (B o), .string (B se), .slice A1 c1 c2, .int .i64 lo1, .int .i64 hi1'].toArray 33)).setCells q 0 [.string (B opRep), .string (B []), .slice (some ⟨w8.heap.size, 0, none⟩) 1 1, .int .i64 lo, .int .i64 hi]).heap.size ∧ b ≠ q) hk9 (fun b hb => hb.2.2) (fun b hb => ⟨hb.1, Nat.lt_of_lt_of_le hb.2.1 hk9.size, hb.2.2⟩)) (fun b hb => hb)
              ⟨by omega, by have h := (Blk.farCells (b := q) (Nat.ne_of_gt hltq) [.string (B opRep), .string (B []), .slice (some ⟨w8.heap.size, 0, none⟩) 1 1, .int .i64 lo, .int .i64 hi] 0 _ (Blk.new w8 33 [.string (B o), .string (B se), .slice A1 c1 c2, .int .i64 lo1, .int .i64 hi1'])).lt; exact h, by omega⟩
            exact Again.mk k ⟨by simp [upd, f0], by simp [upd, f2], by simp [upd, f3], by simp [upd, f7], _, s2, [.string (B opRep), .string (B []), .slice (some ⟨w8.heap.size, 0, none⟩) 1 1, .int .i64 lo, .int .i64 hi], h9, hbq9, hre9, ⟨fun _ => r3⟩, ⟨hrep1⟩⟩ (by omega)
          | false =>
            rw [if_pos (show (!false) = true from rfl)] at hrep1
            injection hrep1 with hrep1
            injection hrep1 with e1 e2
            subst e1; subst e2
            refine Sm.out ?_
            repeat (first | refine qS ?_ | refine qB ?_ | refine qT rfl ?_ | refine qF rfl ?_ | ((first | refine qR rfl ?_ | refine qK ?_ | refine qE ?_ | refine qW ?_ | refine qM ?_); try simp -dsimp (maxSteps := 2000000) (disch := first | omega | (simp only [qZ] <;> omega) | fail) only [push_cast, ↓qP, ↓reduceIte, seval, f0, f2, f3, f7]) | (refine qA ?_ ?_; (first | omega | (simp only [qL]; omega) | (simp only [qD] at *; omega))))
            exact Mid.mk ⟨by simp [upd, f0], by simp [upd, f2], by simp [upd, f3], by simp [upd, f7], _, h7, hbq2, hre2⟩
        · rw [if_pos (by simpa using hf)] at hrep1
          injection hrep1 with hrep1
          injection hrep1 with e1 e2
          subst e1; subst e2
          repeat (first | refine qS ?_ | refine qB ?_ | refine qT rfl ?_ | refine qF rfl ?_ | ((first | refine qR rfl ?_ | refine qK ?_ | refine qE ?_ | refine qW ?_ | refine qM ?_); try simp -dsimp (maxSteps := 2000000) (disch := first | omega | (simp only [qZ] <;> omega) | fail) only [push_cast, ↓qP, ↓reduceIte, seval, f0, h5.at_.rdc, hf]) | (refine qA ?_ ?_; (first | omega | (simp only [qL]; omega) | (simp only [qD] at *; omega))))
          exact Mid.mk ⟨by simp [upd, f0], by simp [upd, f2], by simp [upd, f3], by simp [upd, f7], _, h5, hbq, hre⟩
      clear f0 f2 f3 h5 hbq hre
      rintro F w7 ⟨f0, f2, f3, f7, cs, h5, hbq, hre⟩
      obtain ⟨xs, hown, hel⟩ := h5.own
      obtain ⟨o, se, A1, c1, c2, lo1, hi1', rfl⟩ := hre.form
      have hlta := h5.at_.lt
      have hltq := hbq.lt
      have hn := h5.n
      repeat (first | refine qS ?_ | refine qB ?_ | refine qT rfl ?_ | refine qF rfl ?_ | ((first | refine qR rfl ?_ | refine qK ?_ | refine qE ?_ | refine qW ?_ | refine qM ?_); try simp -dsimp (maxSteps := 2000000) (disch := first | omega | (simp only [qZ] <;> omega) | fail) only [push_cast, ↓qP, ↓reduceIte, seval, f0, f2, f3, f7, hbq.rdc]) | (refine qA ?_ ?_; (first | omega | (simp only [qL]; omega) | (simp only [qD] at *; omega))))
      refine V_append (m := 1) _ _ _ rfl mk_31 rfl (hown.alloc _) rfl [.string (B o), .string (B se), .slice A1 c1 c2, .int .i64 lo1, .int .i64 hi1'] ?r rfl (by omega) (by omega) ?kk
      case r => simp -dsimp (maxSteps := 2000000) (disch := first | omega | (simp only [qZ] <;> omega) | fail) only [push_cast, ↓qP, ↓reduceIte, seval]
      case kk =>
        intro A' cap' w8 hown' hgrow hat
        have h9 := h5.append hown hel (IsRe.keep (fun b hb => ⟨hb.1, hb.2.1⟩) (fun b _ i n vs hr => hr) _ _ hre) hown' hgrow hat
        refine Sm.out ?_
        repeat (first | refine qS ?_ | refine qB ?_ | refine qT rfl ?_ | refine qF rfl ?_ | ((first | refine qR rfl ?_ | refine qK ?_ | refine qE ?_ | refine qW ?_ | refine qM ?_); try simp -dsimp (maxSteps := 2000000) (disch := first | omega | (simp only [qZ] <;> omega) | fail) only [push_cast, ↓qP, ↓reduceIte, seval, f0, f2, f3, f7]) | (refine qA ?_ ?_; (first | omega | (simp only [qL]; omega) | (simp only [qD] at *; omega))))
        exact Again.mk j ⟨by omega, by simp [upd, f0], by simp [upd, f2], es ++ [e'], s3, A', n + 1, cap', _, by simp [upd], h9, m3.st hs1, fun h => by have := (m3.2.2 h).1; have := m2 this; simp; omega, ⟨hpc1⟩⟩ (by omega)
  clear h hs hR
  intro F w1 hM
  obtain ⟨f2, es, s1, A, n, cap, N, f3, rfl, h1⟩ := hM.out
  clear hM
  obtain ⟨xs, hown, hel⟩ := h1.own
  have hn := h1.n
  have hltr := h1.r.lt
  have hrr := h1.r.rdc
  have hrz := h1.r.fz
  have hN1 := h1.N1
  have hN2 := h1.N2
  by_cases hone : n = 1
  · obtain ⟨e, rfl⟩ : ∃ e, es = [e] := by
      match es, hn with
      | [e], _ => exact ⟨e, rfl⟩
      | [], hn => simp at hn; omega
      | _ :: _ :: _, hn => simp at hn; omega
    obtain ⟨cs, ys, rfl, hre, hys⟩ := hel
    simp only [IsEl] at hys
    subst hys
    obtain ⟨o, se, A1, c1, c2, lo1, hi1', rfl⟩ := hre.form
    obtain ⟨g, rfl, hg, _⟩ := hown.some (by omega)
    have hrd : ∀ j, j < 5 → rdc w1 g j = [.string (B o), .string (B se), .slice A1 c1 c2, .int .i64 lo1, .int .i64 hi1'][j]? := fun j hj => by
      rw [hown.rdc j (by omega), List.append_nil]
    have c1' : ((n : Int) == 1) = true := by simp; omega
    clear hown hn
    repeat (first | refine qS ?_ | refine qB ?_ | refine qT rfl ?_ | refine qF rfl ?_ | ((first | refine qR rfl ?_ | refine qK ?_ | refine qE ?_ | refine qW ?_ | refine qM ?_); try simp -dsimp (maxSteps := 2000000) (disch := first | omega | (simp only [qZ] <;> omega) | fail) only [push_cast, ↓qP, ↓reduceIte, seval, f2, f3, c1', hrd, hrr, hrz]) | (refine qA ?_ ?_; (first | omega | (simp only [qL]; omega) | (simp only [qD] at *; omega))))
    exact post_out (w1 := w1) (cs := [.string (B o), .string (B se), .slice A1 c1 c2, .int .i64 lo1, .int .i64 hi1']) h1.at_ h1.r h1.kp h1.lt rfl (by simp [upd, f2]) hre (fun b hb => ⟨hb.1, by have := hb.2.1; omega⟩)
  · have c1' : ((n : Int) == 1) = false := by simp; omega
    have hm : (match some (some es, s1) with
        | none => none
        | some (none, s1) => some (Re.zero, s1)
        | some (some [e], s1) => some (e, s1)
        | some (some es, s1) => some (Re.node opCat [] es 0 0, s1) : Option (Re × S3)) = some (Re.node opCat [] es 0 0, s1) := by
      match es, hn with
      | [e], hn => simp at hn; omega
      | [], _ => rfl
      | _ :: _ :: _, _ => rfl
    repeat (first | refine qS ?_ | refine qB ?_ | refine qT rfl ?_ | refine qF rfl ?_ | ((first | refine qR rfl ?_ | refine qK ?_ | refine qE ?_ | refine qW ?_ | refine qM ?_); try simp -dsimp (maxSteps := 2000000) (disch := first | omega | (simp only [qZ] <;> omega) | fail) only [push_cast, ↓qP, ↓reduceIte, seval, f2, f3, c1', hrr, hrz]) | (refine qA ?_ ?_; (first | omega | (simp only [qL]; omega) | (simp only [qD] at *; omega))))
    exact post_out (w1 := w1) (cs := [.string (B opCat), .string (B []), .slice A n cap, .int .i64 0, .int .i64 0]) h1.at_ h1.r h1.kp h1.lt hm (by simp [upd, f2]) (own_kids hown hel (D' := fun b => w.heap.size < b ∧ b < w1.heap.size) (fun b hb => ⟨hb.1, by have := hb.2.1; omega⟩) (fun b hb => ⟨(h1.fresh b hb).1, hown.lt hb⟩) _ _ _ _) (fun b hb => hb)
end
end Go.Proofs.Ytddichibegppjaa

/- The reference's reader of expressions: branches. -/
namespace Go.Proofs.Ytddichibegppjaa
open Go Go.VC

section
variable {a : Nat} {l : List UInt8} {s s' : S3} {w w1 w2 : World}

theorem Ls.first {e : Re} {cs : List Value} {m : Nat} (h2 : At3 w1 a l s) (hr : Blk w1 w.heap.size 33 zRe) (hk : Kp (· = a) w w1) (hlt : a < w.heap.size) (hre : IsRe w1 (fun b => w.heap.size < b ∧ b < w1.heap.size) e cs) (hm : m = w1.heap.size) :
    Ls w a l s [e] (some ⟨m, 0, none⟩) 1 1 (m + 1) (w1.alloc (.cells cs.toArray 33)) := by
  have hl := hr.lt
  have hk2 : Kp (fun _ => False) w1 (w1.alloc (.cells cs.toArray 33)) := (Kp.refl _ w1).alloc _
  subst hm
  have hle := hre.len
  exact ⟨h2.alloc _, hr.alloc _, ⟨cs, Own.mk' (cur := cs.toArray) (Blk.new w1 33 cs) (Nat.le_refl _) (by decide) (by simp [hle]) (List.take_of_length_le (Nat.le_of_eq hle)), cs, [], by simp, hre.Kp hk2 (fun _ _ => id) (fun b hb => ⟨hb.1, by have := hb.2; omega, by simp [bk]; have := hb.2; omega⟩), rfl⟩, rfl,
    by intro g hg; simp only [bk, Option.map_some] at hg; injection hg with hg; subst hg; exact ⟨hl, Nat.lt_succ_self _⟩, hk.alloc _, hlt, by omega, by simp⟩

theorem branches3_any (k : Nat) (hl : l.length ≤ 1000000) (ih : ∀ j, j < k → CP l a j) : CB l a k := by
  intro s w h hs hex
  obtain ⟨k, rfl⟩ : ∃ k', k = k' + 1 := by
    cases k with
    | zero => obtain ⟨r, hr⟩ := hex; simp [branches3] at hr
    | succ k => exact ⟨k, rfl⟩
  have hps : branches3 l (k + 1) s = match pieces3 l k s with
    | none => none
    | some (e, s1) => match branch3 l k [e] s1 with
      | none => none
      | some ([e], s2) => some (e, s2)
      | some (es, s2) => some (.node opAlt [] es 0 0, s2) := by simp only [branches3]; rfl
  rw [hps] at hex ⊢
  obtain ⟨⟨e0, s0⟩, hp0⟩ : ∃ R, pieces3 l k s = some R := by
    cases hp : pieces3 l k s with
    | none => rw [hp] at hex; obtain ⟨r, hr⟩ := hex; cases hr
    | some R => exact ⟨R, rfl⟩
  rw [hp0] at hex ⊢
  simp only [] at hex ⊢
  obtain ⟨R, hR⟩ : ∃ R, branch3 l k [e0] s0 = some R := by
    cases hp : branch3 l k [e0] s0 with
    | none => rw [hp] at hex; obtain ⟨r, hr⟩ := hex; cases hr
    | some R => exact ⟨R, rfl⟩
  rw [hR]
  clear hex hps
  have hlt := h.lt
  obtain ⟨m0, _⟩ := (reads_ok l k).2.2.2.1 _ _ _ hs hp0
  have hs0 := m0.st hs
  refine enter (n := 34) (args := [.pointer (some ⟨a, 0, none⟩)]) Try.func49 rfl rfl rfl (by simp) ?_
  refine Wp.seq (Wp.region rfl ?_)
  simp -dsimp (maxSteps := 2000000) (disch := first | omega | (simp only [qZ] <;> omega) | fail) only [push_cast, ↓qP, ↓reduceIte, seval]
  refine Wp.seq (Wp.region rfl ?_)
  simp -dsimp (maxSteps := 2000000) (disch := first | omega | (simp only [qZ] <;> omega) | fail) only [push_cast, ↓qP, ↓reduceIte, seval]
  refine CallV.of isCall_70 (ih k (by omega) s (w.alloc (.cells zRe.toArray 33)) (h.alloc _) hs ⟨_, hp0⟩) ?_
  rintro _ w1 ⟨t', s1', cs, he, rfl, hre, h1, hk1⟩
  rw [hp0] at he
  injection he with he
  injection he with he1 he2
  subst he1; subst he2
  have hsz : (w.alloc (.cells zRe.toArray 33)).heap.size = w.heap.size + 1 := by simp
  have hk2 : Kp (· = a) w w1 := ((Kp.refl (· = a) w).alloc (.cells zRe.toArray 33)).trans hk1
  have hL := Ls.first (w := w) h1 (hk1.Blk (Blk.new w 33 zRe) (Nat.ne_of_gt hlt)) hk2 hlt (IsRe.keep (fun b hb => ⟨by have := hb.1; omega, hb.2⟩) (fun b _ i n vs hr => hr) _ _ hre) rfl
  obtain ⟨o, se, A1, c1, c2, lo1, hi1', rfl⟩ := hre.form
  clear h1 hk1 hk2 hre hsz
  refine Sm.out ?_
  repeat (first | ((fail_if_success (first | refine qX (n := 0) ?_)); refine qS ?_) | refine qB ?_ | refine qT rfl ?_ | refine qF rfl ?_ | ((first | refine qR rfl ?_ | refine qK ?_ | refine qE ?_ | refine qW ?_ | refine qM ?_); try simp -dsimp (maxSteps := 2000000) (disch := first | omega | (simp only [qZ] <;> omega) | fail) only [push_cast, ↓qP, ↓reduceIte, seval]) | (refine qA ?_ ?_; (first | omega | (simp only [qL]; omega) | (simp only [qD] at *; omega))))
  refine Wp.cutQ (fun F' w' => F' 2 = .pointer (some ⟨w.heap.size, 0, none⟩) ∧ ∃ es s1 A n cap N, F' 3 = .slice A n cap ∧ R = (es, s1) ∧ Ls w a l s1 es A n cap N w') ?_ ?_
  · repeat (first | refine qS ?_ | refine qB ?_ | refine qT rfl ?_ | refine qF rfl ?_ | ((first | refine qR rfl ?_ | refine qK ?_ | refine qE ?_ | refine qW ?_ | refine qM ?_); try simp -dsimp (maxSteps := 2000000) (disch := first | omega | (simp only [qZ] <;> omega) | fail) only [push_cast, ↓qP, ↓reduceIte, seval]) | (refine qA ?_ ?_; (first | omega | (simp only [qL]; omega) | (simp only [qD] at *; omega))))
    refine Wp.loop (α := Nat) (fun j F w2 => j ≤ k ∧ F 0 = .pointer (some ⟨a, 0, none⟩) ∧ F 2 = .pointer (some ⟨w.heap.size, 0, none⟩) ∧ ∃ es s1 A n cap N, F 3 = .slice A n cap ∧ Ls w a l s1 es A n cap N w2 ∧ St3 l s1 ∧ (s1.f = 0 → es.length ≤ s1.i + 1) ∧ Hide (branch3 l j es s1 = some R)) (fun j => j) k
      ⟨Nat.le_refl _, by simp [upd, arg], by simp [upd], [e0], s0, _, _, _, _, by simp [upd], hL, hs0, fun _ => by simp, ⟨hR⟩⟩ ?_
    clear h hs hR hL hs0 m0
    rintro j F w2 ⟨hjk, f0, f2, es, s1, A, n, cap, N, f3, h1, hs, hei, hpc⟩
    obtain ⟨j, rfl⟩ : ∃ j', j = j' + 1 := by
      cases j with
      | zero => have := hpc.out; simp [branch3] at this
      | succ j => exact ⟨j, rfl⟩
    have hpc1 := hpc.out
    simp only [branch3] at hpc1
    clear hpc
    have e124 : (((byteAt l s1.i).toNat : Int) == 124) = (byteAt l s1.i == 124) := u8_eq' _ 124
    repeat (first | refine qS ?_ | refine qB ?_ | refine qT rfl ?_ | refine qF rfl ?_ | ((first | refine qR rfl ?_ | refine qK ?_ | refine qE ?_ | refine qW ?_ | refine qM ?_); try simp -dsimp (maxSteps := 2000000) (disch := first | omega | (simp only [qZ] <;> omega) | fail) only [push_cast, ↓qP, ↓reduceIte, seval, f0]) | (refine qA ?_ ?_; (first | omega | (simp only [qL]; omega) | (simp only [qD] at *; omega))))
    refine CallV.of isCall_71 (more3_any h1.at_) ?_
    rintro _ _ ⟨rfl, rfl⟩
    rcases Bool.eq_false_or_eq_true (more3 l s1) with hm | hm
    · obtain ⟨hf0, hi1⟩ := (more3_iff l s1).1 hm
      refine Sm.out ?_
      repeat (first | refine qS ?_ | refine qB ?_ | refine qT rfl ?_ | refine qF rfl ?_ | ((first | refine qR rfl ?_ | refine qK ?_ | refine qE ?_ | refine qW ?_ | refine qM ?_); try simp -dsimp (maxSteps := 2000000) (disch := first | omega | (simp only [qZ] <;> omega) | fail) only [push_cast, ↓qP, ↓reduceIte, seval, f0, hm]) | (refine qA ?_ ?_; (first | omega | (simp only [qL]; omega) | (simp only [qD] at *; omega))))
      refine CallV.of isCall_72 (peek3 h1.at_.drew hi1) ?_
      rintro _ _ ⟨rfl, rfl⟩
      rcases Bool.eq_false_or_eq_true (byteAt l s1.i == 124) with h124 | h124
      · rw [if_pos (by rw [hm, h124]; rfl)] at hpc1
        have hei' := hei hf0
        clear hei
        obtain ⟨⟨e, s2⟩, hp⟩ : ∃ p, pieces3 l j s1.on = some p := by
          cases hp : pieces3 l j s1.on with
          | none => rw [hp] at hpc1; cases hpc1
          | some p => exact ⟨p, rfl⟩
        rw [hp] at hpc1
        simp only [] at hpc1
        have h2 := h1.drew.drew
        have hlta := h2.at_.lt
        have hs2 := hs.2.1
        have hs3 := hs.2.2.2 hf0
        have on1 : Mv l s1 s1.on := ⟨rfl, by show ((s1.i + 1 : Nat) : Int) + _ ≤ _; omega, fun h => ⟨h, by show s1.i ≤ s1.i + 1; omega, by show s1.i + 1 ≤ _; omega⟩⟩
        have hs4 := on1.st hs
        obtain ⟨m1, _⟩ := (reads_ok l j).2.2.2.1 _ _ _ hs4 hp
        refine Sm.out ?_
        repeat (first | refine qS ?_ | refine qB ?_ | refine qT rfl ?_ | refine qF rfl ?_ | ((first | refine qR rfl ?_ | refine qK ?_ | refine qE ?_ | refine qW ?_ | refine qM ?_); try simp -dsimp (maxSteps := 2000000) (disch := first | omega | (simp only [qZ] <;> omega) | fail) only [push_cast, ↓qP, ↓reduceIte, seval, f0, f2, f3, e124, h124, h1.at_.rdc, h1.at_.fz]) | (refine qA ?_ ?_; (first | omega | (simp only [qL]; omega) | (simp only [qD] at *; omega))))
        have h3 : Ls w a l s1.on es A n cap N (w2.drew.drew.setCell ⟨a, 1, none⟩ (.int .i64 ((s1.i : Int) + 1))) := h2.seta (h2.at_.set 1 _)
        clear h1 h2 hlta
        generalize (w2.drew.drew.setCell ⟨a, 1, none⟩ (.int .i64 ((s1.i : Int) + 1))) = w3 at *
        refine CallV.of isCall_70 (ih j (by omega) s1.on w3 h3.at_ hs4 ⟨_, hp⟩) ?_
        rintro _ w4 ⟨t', s1', cs, he, rfl, hre, h4, k4⟩
        rw [hp] at he
        injection he with he
        injection he with he1 he2
        subst he1; subst he2
        have h5 := h3.keep h4 k4
        have hN2 := h3.N2
        obtain ⟨xs, hown, hel⟩ := h5.own
        obtain ⟨o, se, A1, c1, c2, lo1, hi1', rfl⟩ := hre.form
        have hlta := h5.at_.lt
        have hn := h5.n
        clear h3 h4 k4 hp
        refine Sm.out ?_
        repeat (first | refine qS ?_ | refine qB ?_ | refine qT rfl ?_ | refine qF rfl ?_ | ((first | refine qR rfl ?_ | refine qK ?_ | refine qE ?_ | refine qW ?_ | refine qM ?_); try simp -dsimp (maxSteps := 2000000) (disch := first | omega | (simp only [qZ] <;> omega) | fail) only [push_cast, ↓qP, ↓reduceIte, seval, f0, f2, f3]) | (refine qA ?_ ?_; (first | omega | (simp only [qL]; omega) | (simp only [qD] at *; omega))))
        refine V_append (m := 1) _ _ _ rfl mk_31 rfl (hown.alloc _) rfl [.string (B o), .string (B se), .slice A1 c1 c2, .int .i64 lo1, .int .i64 hi1'] ?r rfl (by omega) (by omega) ?kk
        case r => simp -dsimp (maxSteps := 2000000) (disch := first | omega | (simp only [qZ] <;> omega) | fail) only [push_cast, ↓qP, ↓reduceIte, seval]
        case kk =>
          intro A' cap' w8 hown' hgrow hat
          have h9 := h5.append hown hel (IsRe.keep (fun b hb => ⟨by have := hb.1; omega, hb.2⟩) (fun b _ i n vs hr => hr) _ _ hre) hown' hgrow hat
          refine Sm.out ?_
          repeat (first | refine qS ?_ | refine qB ?_ | refine qT rfl ?_ | refine qF rfl ?_ | ((first | refine qR rfl ?_ | refine qK ?_ | refine qE ?_ | refine qW ?_ | refine qM ?_); try simp -dsimp (maxSteps := 2000000) (disch := first | omega | (simp only [qZ] <;> omega) | fail) only [push_cast, ↓qP, ↓reduceIte, seval, f0, f2, f3]) | (refine qA ?_ ?_; (first | omega | (simp only [qL]; omega) | (simp only [qD] at *; omega))))
          exact Again.mk j ⟨by omega, by simp [upd, f0], by simp [upd, f2], es ++ [e], s2, A', n + 1, cap', _, by simp [upd], h9, m1.st hs4, fun h => by have := (m1.2.2 h).2.1; change s1.i + 1 ≤ _ at this; simp; omega, ⟨hpc1⟩⟩ (by omega)
      · rw [if_neg (by rw [hm, h124]; simp)] at hpc1
        refine Sm.out ?_
        repeat (first | refine qS ?_ | refine qB ?_ | refine qT rfl ?_ | refine qF rfl ?_ | ((first | refine qR rfl ?_ | refine qK ?_ | refine qE ?_ | refine qW ?_ | refine qM ?_); try simp -dsimp (maxSteps := 2000000) (disch := first | omega | (simp only [qZ] <;> omega) | fail) only [push_cast, ↓qP, ↓reduceIte, seval, f0, e124, h124]) | (refine qA ?_ ?_; (first | omega | (simp only [qL]; omega) | (simp only [qD] at *; omega))))
        exact Mid.mk ⟨by simp [upd, f2], es, s1, A, n, cap, N, by simp [upd, f3], by injection hpc1 with hpc1; exact hpc1.symm, h1.drew.drew⟩
    · rw [if_neg (by rw [hm]; simp)] at hpc1
      refine Sm.out ?_
      repeat (first | refine qS ?_ | refine qB ?_ | refine qT rfl ?_ | refine qF rfl ?_ | ((first | refine qR rfl ?_ | refine qK ?_ | refine qE ?_ | refine qW ?_ | refine qM ?_); try simp -dsimp (maxSteps := 2000000) (disch := first | omega | (simp only [qZ] <;> omega) | fail) only [push_cast, ↓qP, ↓reduceIte, seval, f0, hm]) | (refine qA ?_ ?_; (first | omega | (simp only [qL]; omega) | (simp only [qD] at *; omega))))
      exact Mid.mk ⟨by simp [upd, f2], es, s1, A, n, cap, N, by simp [upd, f3], by injection hpc1 with hpc1; exact hpc1.symm, h1.drew⟩
  clear h hs hR hL
  intro F w1 hM
  obtain ⟨f2, es, s1, A, n, cap, N, f3, rfl, h1⟩ := hM.out
  clear hM
  obtain ⟨xs, hown, hel⟩ := h1.own
  have hn := h1.n
  have hltr := h1.r.lt
  have hrr := h1.r.rdc
  have hrz := h1.r.fz
  have hN1 := h1.N1
  have hN2 := h1.N2
  by_cases hone : n = 1
  · obtain ⟨e, rfl⟩ : ∃ e, es = [e] := by
      match es, hn with
      | [e], _ => exact ⟨e, rfl⟩
      | [], hn => simp at hn; omega
      | _ :: _ :: _, hn => simp at hn; omega
    obtain ⟨cs, ys, rfl, hre, hys⟩ := hel
    simp only [IsEl] at hys
    subst hys
    obtain ⟨o, se, A1, c1, c2, lo1, hi1', rfl⟩ := hre.form
    obtain ⟨g, rfl, hg, _⟩ := hown.some (by omega)
    have hrd : ∀ j, j < 5 → rdc w1 g j = [.string (B o), .string (B se), .slice A1 c1 c2, .int .i64 lo1, .int .i64 hi1'][j]? := fun j hj => by
      rw [hown.rdc j (by omega), List.append_nil]
    have c1' : ((n : Int) == 1) = true := by simp; omega
    clear hown hn
    repeat (first | refine qS ?_ | refine qB ?_ | refine qT rfl ?_ | refine qF rfl ?_ | ((first | refine qR rfl ?_ | refine qK ?_ | refine qE ?_ | refine qW ?_ | refine qM ?_); try simp -dsimp (maxSteps := 2000000) (disch := first | omega | (simp only [qZ] <;> omega) | fail) only [push_cast, ↓qP, ↓reduceIte, seval, f2, f3, c1', hrd, hrr, hrz]) | (refine qA ?_ ?_; (first | omega | (simp only [qL]; omega) | (simp only [qD] at *; omega))))
    exact post_out (w1 := w1) (cs := [.string (B o), .string (B se), .slice A1 c1 c2, .int .i64 lo1, .int .i64 hi1']) h1.at_ h1.r h1.kp h1.lt rfl (by simp [upd, f2]) hre (fun b hb => ⟨hb.1, by have := hb.2.1; omega⟩)
  · have c1' : ((n : Int) == 1) = false := by simp; omega
    have hm : (match some (es, s1) with
        | none => none
        | some ([e], s1) => some (e, s1)
        | some (es, s1) => some (Re.node opAlt [] es 0 0, s1) : Option (Re × S3)) = some (Re.node opAlt [] es 0 0, s1) := by
      match es, hn with
      | [e], hn => simp at hn; omega
      | [], _ => rfl
      | _ :: _ :: _, _ => rfl
    repeat (first | refine qS ?_ | refine qB ?_ | refine qT rfl ?_ | refine qF rfl ?_ | ((first | refine qR rfl ?_ | refine qK ?_ | refine qE ?_ | refine qW ?_ | refine qM ?_); try simp -dsimp (maxSteps := 2000000) (disch := first | omega | (simp only [qZ] <;> omega) | fail) only [push_cast, ↓qP, ↓reduceIte, seval, f2, f3, c1', hrr, hrz]) | (refine qA ?_ ?_; (first | omega | (simp only [qL]; omega) | (simp only [qD] at *; omega))))
    exact post_out (w1 := w1) (cs := [.string (B opAlt), .string (B []), .slice A n cap, .int .i64 0, .int .i64 0]) h1.at_ h1.r h1.kp h1.lt hm (by simp [upd, f2]) (own_kids hown hel (D' := fun b => w.heap.size < b ∧ b < w1.heap.size) (fun b hb => ⟨hb.1, by have := hb.2.1; omega⟩) (fun b hb => ⟨(h1.fresh b hb).1, hown.lt hb⟩) _ _ _ _) (fun b hb => hb)
end
end Go.Proofs.Ytddichibegppjaa

/- The reference's reader of expressions: atoms; all of it. -/
namespace Go.Proofs.Ytddichibegppjaa
open Go Go.VC

section
variable {a : Nat} {l : List UInt8} {s s' : S3} {w w1 w2 : World}

theorem atom3_any (k : Nat) (hl : l.length ≤ 1000000) (ih : ∀ j, j < k → CB l a j) : CA l a k := by
  intro s w h hs hf0 hi1 hex
  obtain ⟨k, rfl⟩ : ∃ k', k = k' + 1 := by
    cases k with
    | zero => obtain ⟨r, hr⟩ := hex; simp [atom3] at hr
    | succ k => exact ⟨k, rfl⟩
  obtain ⟨R, hR⟩ := hex
  rw [hR]
  have hR1 := hR
  simp only [atom3] at hR1
  have hlt := h.lt
  refine enter (n := 121) (args := [.pointer (some ⟨a, 0, none⟩)]) Try.func85 rfl rfl rfl (by simp) ?_
  repeat (first | refine qS ?_ | refine qB ?_ | refine qT rfl ?_ | refine qF rfl ?_ | ((first | refine qR rfl ?_ | refine qK ?_ | refine qE ?_ | refine qW ?_ | refine qM ?_); try simp -dsimp (maxSteps := 2000000) (disch := first | omega | (simp only [qZ] <;> omega) | fail) only [push_cast, ↓qP, ↓reduceIte, seval]) | (refine qA ?_ ?_; (first | omega | (simp only [qL]; omega) | (simp only [qD] at *; omega))))
  refine CallV.gen (A := fun W => At3 W a l s ∧ Blk W w.heap.size 33 zRe ∧ Kp (· = a) w W) ⟨h.alloc _, Blk.new w 33 zRe, (Kp.refl _ w).alloc _⟩ ?_
  rintro w1 ⟨h1, hb1, k1⟩
  refine CallV.of isCall_72 (peek3 h1 hi1) ?_
  rintro _ _ ⟨rfl, rfl⟩
  have h2 := h1.drew
  have hb2 := hb1.drew
  have k2 := k1.drew
  clear h1 hb1 k1
  generalize w1.drew = w2 at *
  have hlta := h2.lt
  have hltr := hb2.lt
  have hrr := hb2.rdc
  have hrz := hb2.fz
  have hne : a ≠ w.heap.size := Nat.ne_of_lt hlt
  have e40 : (((byteAt l s.i).toNat : Int) == 40) = (byteAt l s.i == 40) := u8_eq' _ 40
  have e46 : (((byteAt l s.i).toNat : Int) == 46) = (byteAt l s.i == 46) := u8_eq' _ 46
  have e94 : (((byteAt l s.i).toNat : Int) == 94) = (byteAt l s.i == 94) := u8_eq' _ 94
  have e36 : (((byteAt l s.i).toNat : Int) == 36) = (byteAt l s.i == 36) := u8_eq' _ 36
  have e91 : (((byteAt l s.i).toNat : Int) == 91) = (byteAt l s.i == 91) := u8_eq' _ 91
  have e92 : (((byteAt l s.i).toNat : Int) == 92) = (byteAt l s.i == 92) := u8_eq' _ 92
  rcases Bool.eq_false_or_eq_true (byteAt l s.i == 40) with c40 | c40
  · rw [if_pos c40] at hR1
    rcases Bool.eq_false_or_eq_true (decide (s.d ≥ 100)) with hd | hd
    · rw [if_pos (by simpa using hd)] at hR1
      injection hR1 with hR1
      subst hR1
      refine Sm.out ?_
      repeat (first | refine qS ?_ | refine qB ?_ | refine qT rfl ?_ | refine qF rfl ?_ | ((first | refine qR rfl ?_ | refine qK ?_ | refine qE ?_ | refine qW ?_ | refine qM ?_); try simp -dsimp (maxSteps := 2000000) (disch := first | omega | (simp only [qZ] <;> omega) | fail) only [push_cast, ↓qP, ↓reduceIte, seval, e40, c40, h2.rdc, hd]) | (refine qA ?_ ?_; (first | omega | (simp only [qL]; omega) | (simp only [qD] at *; omega))))
      refine CallV.of isCall_50 (fail3 h2 1) ?_
      rintro _ w3 ⟨rfl, h3, k3⟩
      have hb3 := k3.Blk hb2 hne.symm
      have hltr := hb3.lt
      have hrr := hb3.rdc
      have hrz := hb3.fz
      refine Sm.out ?_
      repeat (first | refine qS ?_ | refine qB ?_ | refine qT rfl ?_ | refine qF rfl ?_ | ((first | refine qR rfl ?_ | refine qK ?_ | refine qE ?_ | refine qW ?_ | refine qM ?_); try simp -dsimp (maxSteps := 2000000) (disch := first | omega | (simp only [qZ] <;> omega) | fail) only [push_cast, ↓qP, ↓reduceIte, seval, hrr, hrz]) | (refine qA ?_ ?_; (first | omega | (simp only [qL]; omega) | (simp only [qD] at *; omega))))
      exact post_out (w1 := w3) (cs := zRe) h3 hb3 (k2.trans k3) hlt rfl (by simp [upd]) (zRe_is _ (fun _ => False)) (fun b h => h.elim)
    · rw [if_neg (by simpa using hd)] at hR1
      have hd' : s.d < 100 := by simpa using hd
      obtain ⟨d0, d1, d2, d3⟩ := hs
      obtain ⟨⟨e, s1⟩, hb⟩ : ∃ p, branches3 l k { s with i := s.i + 1, d := s.d + 1 } = some p := by
        cases hp : branches3 l k { s with i := s.i + 1, d := s.d + 1 } with
        | none => rw [hp] at hR1; cases hR1
        | some p => exact ⟨p, rfl⟩
      rw [hb] at hR1
      simp only [] at hR1
      have st2 : St3 l { s with i := s.i + 1, d := s.d + 1 } := ⟨by show 0 ≤ s.d + 1; omega, by show s.d + 1 ≤ 100; omega, by show ((s.i + 1 : Nat) : Int) + (s.d + 1) ≤ _; omega, fun _ => by show s.i + 1 ≤ _; omega⟩
      obtain ⟨⟨m1, m2, m3⟩, _⟩ := (reads_ok l k).2.2.2.2 _ _ _ st2 hb
      change s1.d = s.d + 1 at m1
      change (s1.i : Int) + (s.d + 1) ≤ _ at m2
      clear m3
      refine Sm.out ?_
      repeat (first | ((fail_if_success (first | refine qY (n := 9) ?_ | refine qV (n := 9) ?_)); refine qS ?_) | refine qB ?_ | refine qT rfl ?_ | refine qF rfl ?_ | ((first | refine qR rfl ?_ | refine qK ?_ | refine qE ?_ | refine qW ?_ | refine qM ?_); try simp -dsimp (maxSteps := 2000000) (disch := first | omega | (simp only [qZ] <;> omega) | fail) only [push_cast, ↓qP, ↓reduceIte, seval, e40, c40, h2.rdc, h2.fz, hd]) | (refine qA ?_ ?_; (first | omega | (simp only [qL]; omega) | (simp only [qD] at *; omega))))
      have h3 : At3 ((w2.setCell ⟨a, 1, none⟩ (.int .i64 ((s.i : Int) + 1))).setCell ⟨a, 3, none⟩ (.int .i64 (s.d + 1))) a l { s with i := s.i + 1, d := s.d + 1 } := (h2.set 1 _).set 3 _
      have hb3 := (hb2.far (p := ⟨a, 1, none⟩) hne.symm (.int .i64 ((s.i : Int) + 1))).far (p := ⟨a, 3, none⟩) hne.symm (.int .i64 (s.d + 1))
      have k3 := (k2.setCell (p := ⟨a, 1, none⟩) (fun _ => rfl) (.int .i64 ((s.i : Int) + 1))).setCell (p := ⟨a, 3, none⟩) (fun _ => rfl) (.int .i64 (s.d + 1))
      generalize ((w2.setCell ⟨a, 1, none⟩ (.int .i64 ((s.i : Int) + 1))).setCell ⟨a, 3, none⟩ (.int .i64 (s.d + 1))) = w3 at *
      have hrN := hb3.lt
      repeat (first | refine qS ?_ | refine qB ?_ | refine qT rfl ?_ | refine qF rfl ?_ | ((first | refine qR rfl ?_ | refine qK ?_ | refine qE ?_ | refine qW ?_ | refine qM ?_); try simp -dsimp (maxSteps := 2000000) (disch := first | omega | (simp only [qZ] <;> omega) | fail) only [push_cast, ↓qP, ↓reduceIte, seval]) | (refine qA ?_ ?_; (first | omega | (simp only [qL]; omega) | (simp only [qD] at *; omega))))
      refine CallV.of isCall_49 (ih k (by omega) _ w3 h3 st2 ⟨_, hb⟩) ?_
      rintro _ w4 ⟨t', s1', cs, he, rfl, hre, h4, k4⟩
      rw [hb] at he
      injection he with he
      injection he with he1 he2
      subst he1; subst he2
      obtain ⟨o, se, A1, c1, c2, lo1, hi1', rfl⟩ := hre.form
      have hb4 := k4.Blk hb3 hne.symm
      have k5 := k3.trans k4
      have hlta := h4.lt
      refine Sm.out ?_
      repeat (first | ((fail_if_success (first | refine qY (n := 10) ?_ | refine qV (n := 10) ?_)); refine qS ?_) | refine qB ?_ | refine qT rfl ?_ | refine qF rfl ?_ | ((first | refine qR rfl ?_ | refine qK ?_ | refine qE ?_ | refine qW ?_ | refine qM ?_); try simp -dsimp (maxSteps := 2000000) (disch := first | omega | (simp only [qZ] <;> omega) | fail) only [push_cast, ↓qP, ↓reduceIte, seval]) | (refine qA ?_ ?_; (first | omega | (simp only [qL]; omega) | (simp only [qD] at *; omega))))
      obtain ⟨q, hq⟩ : ∃ q, q = w4.heap.size := ⟨_, rfl⟩
      rw [← hq]
      have hltr4 := hb4.lt
      refine Wp.gen (w := (w4.alloc (.cells zRe.toArray 33)).setCells q 0 [.string (B o), .string (B se), .slice A1 c1 c2, .int .i64 lo1, .int .i64 hi1']) (A := fun W => At3 W a l s1 ∧ Blk W w.heap.size 33 zRe ∧ Kp (· = a) w W ∧ Blk W q 33 [.string (B o), .string (B se), .slice A1 c1 c2, .int .i64 lo1, .int .i64 hi1'] ∧ IsRe W (fun b => w.heap.size < b ∧ b < W.heap.size ∧ b ≠ q) e [.string (B o), .string (B se), .slice A1 c1 c2, .int .i64 lo1, .int .i64 hi1']) ?_ ?_
      · have hk : Kp (· = q) w4 ((w4.alloc (.cells zRe.toArray 33)).setCells q 0 [.string (B o), .string (B se), .slice A1 c1 c2, .int .i64 lo1, .int .i64 hi1']) := ((Kp.refl (· = q) w4).alloc _).setCells (fun _ => rfl) [.string (B o), .string (B se), .slice A1 c1 c2, .int .i64 lo1, .int .i64 hi1'] 0
        exact ⟨Blk.farCells (by omega) _ _ _ (h4.alloc _), Blk.farCells (by omega) _ _ _ (hb4.alloc _), k5.trans' hk (fun i hi e => by have := k5.size; omega), Blk.setAll (cs := zRe) (by rw [hq]; exact Blk.new w4 33 zRe) rfl,
          hre.Kp hk (fun b hb e => by have := hb.2; omega) (fun b hb => ⟨by have := hb.1; omega, Nat.lt_of_lt_of_le hb.2 hk.size, by have := hb.2; omega⟩)⟩
      clear h4 hb4 k5 k4 hre hlta hltr hrr hrz h3 hb3 k3 h2 hb2 k2
      rintro w5 ⟨h5, hb5, k5, hq5, hre5⟩
      have hlta := h5.lt
      have hqr : q ≠ w.heap.size := by omega
      have hqa : q ≠ a := by omega
      clear hq
      refine Sm.out ?_
      repeat (first | ((fail_if_success (first | refine qY (n := 11) ?_ | refine qV (n := 11) ?_)); refine qS ?_) | refine qB ?_ | refine qT rfl ?_ | refine qF rfl ?_ | ((first | refine qR rfl ?_ | refine qK ?_ | refine qE ?_ | refine qW ?_ | refine qM ?_); try simp -dsimp (maxSteps := 2000000) (disch := first | omega | (simp only [qZ] <;> omega) | fail) only [push_cast, ↓qP, ↓reduceIte, seval, h5.rdc, h5.fz]) | (refine qA ?_ ?_; (first | omega | (simp only [qL]; omega) | (simp only [qD] at *; omega))))
      have h6 : At3 (w5.setCell ⟨a, 3, none⟩ (.int .i64 (s1.d - 1))) a l { s1 with d := s1.d - 1 } := h5.set 3 _
      have hb6 := hb5.far (p := ⟨a, 3, none⟩) hne.symm (.int .i64 (s1.d - 1))
      have hq6 := hq5.far (p := ⟨a, 3, none⟩) hqa (.int .i64 (s1.d - 1))
      have k6 := k5.setCell (p := ⟨a, 3, none⟩) (fun _ => rfl) (.int .i64 (s1.d - 1))
      have hre6 := hre5.Kp (D' := fun b => w.heap.size < b ∧ b < (w5.setCell ⟨a, 3, none⟩ (.int .i64 (s1.d - 1))).heap.size) ((Kp.refl (· = a) w5).setCell (p := ⟨a, 3, none⟩) (fun _ => rfl) (.int .i64 (s1.d - 1))) (fun b hb e => by have := hb.1; omega) (fun b hb => ⟨hb.1, by have := hb.2.1; simpa using this⟩)
      clear h5 hb5 k5 hq5 hre5
      generalize (w5.setCell ⟨a, 3, none⟩ (.int .i64 (s1.d - 1))) = w6 at *
      obtain ⟨s2, hs2⟩ : ∃ s2 : S3, s2 = { s1 with d := s1.d - 1 } := ⟨_, rfl⟩
      rw [← hs2] at h6
      have hs2i : s2.i ≤ l.length + 200 := by rw [hs2]; show s1.i ≤ _; omega
      clear m1 m2 d2
      obtain ⟨s3, hs3⟩ : ∃ s3 : S3, s3 = if s2.f == 0 && decide ((s2.i : Int) ≥ (l.length : Int)) then s2.fail 1 else s2 := ⟨_, rfl⟩
      have hR2 : R = (e, s3.on) := by rw [hs3, hs2]; injection hR1 with hR1; exact hR1.symm
      clear hR1 hR hs2
      subst hR2
      refine Wp.cut (fun F W => F 0 = .pointer (some ⟨a, 0, none⟩) ∧ F 2 = .pointer (some ⟨w.heap.size, 0, none⟩) ∧ F 4 = .pointer (some ⟨q, 0, none⟩) ∧ At3 W a l s3 ∧ s3.i ≤ l.length + 200 ∧ Blk W w.heap.size 33 zRe ∧ Kp (· = a) w W ∧ Blk W q 33 [.string (B o), .string (B se), .slice A1 c1 c2, .int .i64 lo1, .int .i64 hi1'] ∧ IsRe W (fun b => w.heap.size < b ∧ b < W.heap.size) e [.string (B o), .string (B se), .slice A1 c1 c2, .int .i64 lo1, .int .i64 hi1']) ?_ ?_
      · rcases Bool.eq_false_or_eq_true (s2.f == 0) with g1 | g1
        · rcases Bool.eq_false_or_eq_true (decide ((s2.i : Int) ≥ (l.length : Int))) with g2 | g2
          · rw [g1, g2] at hs3
            simp only [Bool.and_self, if_true] at hs3
            have hlt6 := h6.lt
            refine Wp.seq (Wp.draw [0, 1, 3, 7, 15, 31, 63, 127, 255, 511, 63, 1087, 3135, 7231, 15423, 32767, 65535] [] (.op 0 false false [] <| .op 1 false false [] <| .op 2 false false [] <| .op 3 false false [] <| .op 4 false false [] <| .op 5 false false [] <| .op 6 false false [] <| .op 7 false false [] <| .op 8 false false [] <| .op 9 false false [] <| .op 10 false false [] <| .op 11 false false [] <| .op 12 false false [] <| .op 13 false false [] <| .op 14 false false [] <| .op 15 false false [] <| .op 16 false false [] <| .nil) mixed (by kernel_rfl) ?_)
            simp -dsimp (maxSteps := 2000000) (disch := first | omega | (simp only [qZ] <;> omega) | fail) only [push_cast, ↓qP, ↓reduceIte, seval, h6.rdc, g1, g2]
            refine Sm.out ?_
            repeat (first | refine qS ?_ | refine qB ?_ | refine qT rfl ?_ | refine qF rfl ?_ | ((first | refine qR rfl ?_ | refine qK ?_ | refine qE ?_ | refine qW ?_ | refine qM ?_); try simp -dsimp (maxSteps := 2000000) (disch := first | omega | (simp only [qZ] <;> omega) | fail) only [push_cast, ↓qP, ↓reduceIte, seval, g1, g2]) | (refine qA ?_ ?_; (first | omega | (simp only [qL]; omega) | (simp only [qD] at *; omega))))
            refine CallV.of isCall_50 (fail3 h6.drew 1) ?_
            rintro _ w7 ⟨rfl, h7, k7⟩
            refine Sm.out ?_
            repeat (first | refine qS ?_ | refine qB ?_ | refine qT rfl ?_ | refine qF rfl ?_ | ((first | refine qR rfl ?_ | refine qK ?_ | refine qE ?_ | refine qW ?_ | refine qM ?_); try simp -dsimp (maxSteps := 2000000) (disch := first | omega | (simp only [qZ] <;> omega) | fail) only [push_cast, ↓qP, ↓reduceIte, seval]) | (refine qA ?_ ?_; (first | omega | (simp only [qL]; omega) | (simp only [qD] at *; omega))))
            have k7' : Kp (· = a) w6 w7 := (Kp.refl (· = a) w6).drew.trans k7
            exact Mid.mk ⟨by simp [upd, arg], by simp [upd], by simp [upd], hs3 ▸ h7, by rw [hs3, fail_ii]; exact hs2i, k7'.Blk hb6 hne.symm, k6.trans k7', k7'.Blk hq6 hqa, hre6.Kp k7' (fun b hb e => by have := hb.1; omega) (fun b hb => ⟨hb.1, Nat.lt_of_lt_of_le hb.2 k7'.size⟩)⟩
          · rw [g1, g2] at hs3
            simp only [Bool.and_false, Bool.false_eq_true, if_false] at hs3
            have hlt6 := h6.lt
            refine Wp.seq (Wp.draw [0, 1, 3, 7, 15, 31, 63, 127, 255, 511, 63, 1087, 3135, 7231, 15423, 32767, 65535] [] (.op 0 false false [] <| .op 1 false false [] <| .op 2 false false [] <| .op 3 false false [] <| .op 4 false false [] <| .op 5 false false [] <| .op 6 false false [] <| .op 7 false false [] <| .op 8 false false [] <| .op 9 false false [] <| .op 10 false false [] <| .op 11 false false [] <| .op 12 false false [] <| .op 13 false false [] <| .op 14 false false [] <| .op 15 false false [] <| .op 16 false false [] <| .nil) mixed (by kernel_rfl) ?_)
            simp -dsimp (maxSteps := 2000000) (disch := first | omega | (simp only [qZ] <;> omega) | fail) only [push_cast, ↓qP, ↓reduceIte, seval, h6.rdc, g1, g2]
            refine Sm.out ?_
            repeat (first | refine qS ?_ | refine qB ?_ | refine qT rfl ?_ | refine qF rfl ?_ | ((first | refine qR rfl ?_ | refine qK ?_ | refine qE ?_ | refine qW ?_ | refine qM ?_); try simp -dsimp (maxSteps := 2000000) (disch := first | omega | (simp only [qZ] <;> omega) | fail) only [push_cast, ↓qP, ↓reduceIte, seval, g1, g2]) | (refine qA ?_ ?_; (first | omega | (simp only [qL]; omega) | (simp only [qD] at *; omega))))
            exact Mid.mk ⟨by simp [upd, arg], by simp [upd], by simp [upd], hs3 ▸ h6.drew, by rw [hs3]; exact hs2i, hb6.drew, k6.drew, hq6.drew, hre6.Kp ((Kp.refl (fun _ => False) w6).drew) (fun _ _ => id) (fun b hb => hb)⟩
        · rw [g1] at hs3
          simp only [Bool.false_and, Bool.false_eq_true, if_false] at hs3
          have hlt6 := h6.lt
          refine Wp.seq (Wp.draw [0, 1, 3, 7, 15, 31, 63, 127, 255, 511, 63, 1087, 3135, 7231, 15423, 32767, 65535] [] (.op 0 false false [] <| .op 1 false false [] <| .op 2 false false [] <| .op 3 false false [] <| .op 4 false false [] <| .op 5 false false [] <| .op 6 false false [] <| .op 7 false false [] <| .op 8 false false [] <| .op 9 false false [] <| .op 10 false false [] <| .op 11 false false [] <| .op 12 false false [] <| .op 13 false false [] <| .op 14 false false [] <| .op 15 false false [] <| .op 16 false false [] <| .nil) mixed (by kernel_rfl) ?_)
          simp -dsimp (maxSteps := 2000000) (disch := first | omega | (simp only [qZ] <;> omega) | fail) only [push_cast, ↓qP, ↓reduceIte, seval, h6.rdc, g1]
          refine Sm.out ?_
          repeat (first | refine qS ?_ | refine qB ?_ | refine qT rfl ?_ | refine qF rfl ?_ | ((first | refine qR rfl ?_ | refine qK ?_ | refine qE ?_ | refine qW ?_ | refine qM ?_); try simp -dsimp (maxSteps := 2000000) (disch := first | omega | (simp only [qZ] <;> omega) | fail) only [push_cast, ↓qP, ↓reduceIte, seval, g1]) | (refine qA ?_ ?_; (first | omega | (simp only [qL]; omega) | (simp only [qD] at *; omega))))
          exact Mid.mk ⟨by simp [upd, arg], by simp [upd], by simp [upd], hs3 ▸ h6.drew, by rw [hs3]; exact hs2i, hb6.drew, k6.drew, hq6.drew, hre6.Kp ((Kp.refl (fun _ => False) w6).drew) (fun _ _ => id) (fun b hb => hb)⟩
      clear h6 hb6 k6 hq6 hre6 hs3
      rintro F w7 ⟨f0, f2, f4, h7, hi7, hb7, k7, hq7, hre7⟩
      have hlta := h7.lt
      have hltq := hq7.lt
      have hltr := hb7.lt
      have hrr := hb7.rdc
      have hrz := hb7.fz
      have haq : a ≠ q := hqa.symm
      repeat (first | refine qS ?_ | refine qB ?_ | refine qT rfl ?_ | refine qF rfl ?_ | ((first | refine qR rfl ?_ | refine qK ?_ | refine qE ?_ | refine qW ?_ | refine qM ?_); try simp -dsimp (maxSteps := 2000000) (disch := first | omega | (simp only [qZ] <;> omega) | fail) only [push_cast, ↓qP, ↓reduceIte, seval, f0, f2, f4, h7.rdc, h7.fz, hq7.rdc, hrr, hrz]) | (refine qA ?_ ?_; (first | omega | (simp only [qL]; omega) | (simp only [qD] at *; omega))))
      exact post_out (w1 := w7.setCell ⟨a, 1, none⟩ (.int .i64 ((s3.i : Int) + 1))) (s' := s3.on) (cs := [.string (B o), .string (B se), .slice A1 c1 c2, .int .i64 lo1, .int .i64 hi1']) (h7.set 1 _) (hb7.far (p := ⟨a, 1, none⟩) hne.symm _) (k7.setCell (fun _ => rfl) _) hlt rfl (by simp [upd, f2]) (hre7.Kp (D' := fun b => w.heap.size < b ∧ b < (w7.setCell ⟨a, 1, none⟩ (.int .i64 ((s3.i : Int) + 1))).heap.size) ((Kp.refl (· = a) w7).setCell (p := ⟨a, 1, none⟩) (fun _ => rfl) _) (fun b hb e => by have := hb.1; omega) (fun b hb => ⟨hb.1, by have := hb.2; simpa using this⟩)) (fun b hb => hb)
  rw [if_neg (by rw [c40]; simp)] at hR1
  rcases Bool.eq_false_or_eq_true (byteAt l s.i == 46) with c46 | c46
  · rw [if_pos c46] at hR1
    injection hR1 with hR1
    subst hR1
    refine Sm.out ?_
    repeat (first | refine qS ?_ | refine qB ?_ | refine qT rfl ?_ | refine qF rfl ?_ | ((first | refine qR rfl ?_ | refine qK ?_ | refine qE ?_ | refine qW ?_ | refine qM ?_); try simp -dsimp (maxSteps := 2000000) (disch := first | omega | (simp only [qZ] <;> omega) | fail) only [push_cast, ↓qP, ↓reduceIte, seval, e40, c40, e46, c46, h2.rdc, h2.fz]) | (refine qA ?_ ?_; (first | omega | (simp only [qL]; omega) | (simp only [qD] at *; omega))))
    have h3 : At3 (w2.setCell ⟨a, 1, none⟩ (.int .i64 ((s.i : Int) + 1))) a l s.on := h2.set 1 _
    have hb3 := hb2.far (p := ⟨a, 1, none⟩) hne.symm (.int .i64 ((s.i : Int) + 1))
    have k3 := k2.setCell (p := ⟨a, 1, none⟩) (fun _ => rfl) (.int .i64 ((s.i : Int) + 1))
    generalize (w2.setCell ⟨a, 1, none⟩ (.int .i64 ((s.i : Int) + 1))) = w3 at *
    refine CallV.of isCall_93 (all3_any w3) ?_
    rintro _ w4 ⟨rfl, k4⟩
    have h4 := k4.Blk h3 id
    have hb4 := k4.Blk hb3 id
    have k5 := k3.trans (k4.mono (fun k _ e => e.elim))
    have hltr := hb4.lt
    have hrr := hb4.rdc
    have hrz := hb4.fz
    refine Sm.out ?_
    repeat (first | refine qS ?_ | refine qB ?_ | refine qT rfl ?_ | refine qF rfl ?_ | ((first | refine qR rfl ?_ | refine qK ?_ | refine qE ?_ | refine qW ?_ | refine qM ?_); try simp -dsimp (maxSteps := 2000000) (disch := first | omega | (simp only [qZ] <;> omega) | fail) only [push_cast, ↓qP, ↓reduceIte, seval, hrr, hrz]) | (refine qA ?_ ?_; (first | omega | (simp only [qL]; omega) | (simp only [qD] at *; omega))))
    exact post_out (w1 := w4) (cs := [.string (B opSet), .string (B allBytes), .slice none 0 0, .int .i64 0, .int .i64 0]) h4 hb4 k5 hlt rfl (by simp [upd]) (set_is _ (fun _ => False) _ _) (fun b h => h.elim)
  rw [if_neg (by rw [c46]; simp)] at hR1
  rcases Bool.eq_false_or_eq_true (byteAt l s.i == 94) with c94 | c94
  · rw [if_pos c94] at hR1
    injection hR1 with hR1
    subst hR1
    refine Sm.out ?_
    repeat (first | refine qS ?_ | refine qB ?_ | refine qT rfl ?_ | refine qF rfl ?_ | ((first | refine qR rfl ?_ | refine qK ?_ | refine qE ?_ | refine qW ?_ | refine qM ?_); try simp -dsimp (maxSteps := 2000000) (disch := first | omega | (simp only [qZ] <;> omega) | fail) only [push_cast, ↓qP, ↓reduceIte, seval, e40, c40, e46, c46, e94, c94, h2.rdc, h2.fz, hrr, hrz]) | (refine qA ?_ ?_; (first | omega | (simp only [qL]; omega) | (simp only [qD] at *; omega))))
    exact post_out (w1 := w2.setCell ⟨a, 1, none⟩ (.int .i64 ((s.i : Int) + 1))) (s' := s.on) (cs := [.string (B opBol), .string (B []), .slice none 0 0, .int .i64 0, .int .i64 0]) (h2.set 1 _) (hb2.far (p := ⟨a, 1, none⟩) hne.symm _) (k2.setCell (fun _ => rfl) _) hlt rfl (by simp [upd]) (set_is _ (fun _ => False) _ _) (fun b h => h.elim)
  rw [if_neg (by rw [c94]; simp)] at hR1
  rcases Bool.eq_false_or_eq_true (byteAt l s.i == 36) with c36 | c36
  · rw [if_pos c36] at hR1
    injection hR1 with hR1
    subst hR1
    refine Sm.out ?_
    repeat (first | refine qS ?_ | refine qB ?_ | refine qT rfl ?_ | refine qF rfl ?_ | ((first | refine qR rfl ?_ | refine qK ?_ | refine qE ?_ | refine qW ?_ | refine qM ?_); try simp -dsimp (maxSteps := 2000000) (disch := first | omega | (simp only [qZ] <;> omega) | fail) only [push_cast, ↓qP, ↓reduceIte, seval, e40, c40, e46, c46, e94, c94, e36, c36, h2.rdc, h2.fz, hrr, hrz]) | (refine qA ?_ ?_; (first | omega | (simp only [qL]; omega) | (simp only [qD] at *; omega))))
    exact post_out (w1 := w2.setCell ⟨a, 1, none⟩ (.int .i64 ((s.i : Int) + 1))) (s' := s.on) (cs := [.string (B opEol), .string (B []), .slice none 0 0, .int .i64 0, .int .i64 0]) (h2.set 1 _) (hb2.far (p := ⟨a, 1, none⟩) hne.symm _) (k2.setCell (fun _ => rfl) _) hlt rfl (by simp [upd]) (set_is _ (fun _ => False) _ _) (fun b h => h.elim)
  rw [if_neg (by rw [c36]; simp)] at hR1
  rcases Bool.eq_false_or_eq_true (byteAt l s.i == 91) with c91 | c91
  · rw [if_pos c91] at hR1
    refine Sm.out ?_
    repeat (first | refine qS ?_ | refine qB ?_ | refine qT rfl ?_ | refine qF rfl ?_ | ((first | refine qR rfl ?_ | refine qK ?_ | refine qE ?_ | refine qW ?_ | refine qM ?_); try simp -dsimp (maxSteps := 2000000) (disch := first | omega | (simp only [qZ] <;> omega) | fail) only [push_cast, ↓qP, ↓reduceIte, seval, e40, c40, e46, c46, e94, c94, e36, c36, e91, c91]) | (refine qA ?_ ?_; (first | omega | (simp only [qL]; omega) | (simp only [qD] at *; omega))))
    refine CallV.of isCall_94 (bracket3_any h2 hl hi1) ?_
    rintro _ w3 ⟨t', s1', cs, he, rfl, hre, h3, k3⟩
    rw [hR1] at he
    injection he with he
    subst he
    obtain ⟨o, se, A1, c1, c2, lo1, hi1', rfl⟩ := hre.form
    have hb3 := k3.Blk hb2 hne.symm
    have hltr := hb3.lt
    have hrr := hb3.rdc
    have hrz := hb3.fz
    have hN := hb2.lt
    refine Sm.out ?_
    repeat (first | refine qS ?_ | refine qB ?_ | refine qT rfl ?_ | refine qF rfl ?_ | ((first | refine qR rfl ?_ | refine qK ?_ | refine qE ?_ | refine qW ?_ | refine qM ?_); try simp -dsimp (maxSteps := 2000000) (disch := first | omega | (simp only [qZ] <;> omega) | fail) only [push_cast, ↓qP, ↓reduceIte, seval, hrr, hrz]) | (refine qA ?_ ?_; (first | omega | (simp only [qL]; omega) | (simp only [qD] at *; omega))))
    exact post_out (w1 := w3) (cs := [.string (B o), .string (B se), .slice A1 c1 c2, .int .i64 lo1, .int .i64 hi1']) h3 hb3 (k2.trans k3) hlt rfl (by simp [upd]) hre (fun b hb => ⟨by have := hb.1; omega, hb.2⟩)
  rw [if_neg (by rw [c91]; simp)] at hR1
  rcases Bool.eq_false_or_eq_true (byteAt l s.i == 92) with c92 | c92
  · rw [if_pos c92] at hR1
    injection hR1 with hR1
    subst hR1
    refine Sm.out ?_
    repeat (first | refine qS ?_ | refine qB ?_ | refine qT rfl ?_ | refine qF rfl ?_ | ((first | refine qR rfl ?_ | refine qK ?_ | refine qE ?_ | refine qW ?_ | refine qM ?_); try simp -dsimp (maxSteps := 2000000) (disch := first | omega | (simp only [qZ] <;> omega) | fail) only [push_cast, ↓qP, ↓reduceIte, seval, e40, c40, e46, c46, e94, c94, e36, c36, e91, c91, e92, c92]) | (refine qA ?_ ?_; (first | omega | (simp only [qL]; omega) | (simp only [qD] at *; omega))))
    refine CallV.of isCall_95 (escape3_any h2 hl (by omega)) ?_
    rintro _ w3 ⟨rfl, h3, k3⟩
    have hb3 := k3.Blk hb2 hne.symm
    have hltr := hb3.lt
    have hrr := hb3.rdc
    have hrz := hb3.fz
    refine Sm.out ?_
    repeat (first | refine qS ?_ | refine qB ?_ | refine qT rfl ?_ | refine qF rfl ?_ | ((first | refine qR rfl ?_ | refine qK ?_ | refine qE ?_ | refine qW ?_ | refine qM ?_); try simp -dsimp (maxSteps := 2000000) (disch := first | omega | (simp only [qZ] <;> omega) | fail) only [push_cast, ↓qP, ↓reduceIte, seval, by8]) | (refine qA ?_ ?_; (first | omega | (simp only [qL]; omega) | (simp only [qD] at *; omega))))
    refine V_str 63 9 _ rfl se_63 ik_5 isStr_9 [(escape3 l s).1] rfl rfl (.inr ⟨w3.heap.size, 0, rfl, fun j hj => ?_⟩) ?_
    · obtain rfl : j = 0 := by simpa using hj
      exact (Blk.new w3 5 [by8 (escape3 l s).1]).rdc 0
    refine Sm.out ?_
    repeat (first | refine qS ?_ | refine qB ?_ | refine qT rfl ?_ | refine qF rfl ?_ | ((first | refine qR rfl ?_ | refine qK ?_ | refine qE ?_ | refine qW ?_ | refine qM ?_); try simp -dsimp (maxSteps := 2000000) (disch := first | omega | (simp only [qZ] <;> omega) | fail) only [push_cast, ↓qP, ↓reduceIte, seval, hrr, hrz]) | (refine qA ?_ ?_; (first | omega | (simp only [qL]; omega) | (simp only [qD] at *; omega))))
    exact post_out (w1 := w3.alloc (.cells #[.int .u8 ((escape3 l s).1.toNat : Int)] 5)) (cs := [.string (B opSet), .string (B [(escape3 l s).1]), .slice none 0 0, .int .i64 0, .int .i64 0]) (h3.alloc _) (hb3.alloc _) ((k2.trans k3).alloc _) hlt rfl (by simp [upd]) (set_is _ (fun _ => False) _ _) (fun b h => h.elim)
  rw [if_neg (by rw [c92]; simp)] at hR1
  injection hR1 with hR1
  subst hR1
  refine Sm.out ?_
  repeat (first | refine qS ?_ | refine qB ?_ | refine qT rfl ?_ | refine qF rfl ?_ | ((first | refine qR rfl ?_ | refine qK ?_ | refine qE ?_ | refine qW ?_ | refine qM ?_); try simp -dsimp (maxSteps := 2000000) (disch := first | omega | (simp only [qZ] <;> omega) | fail) only [push_cast, ↓qP, ↓reduceIte, seval, e40, c40, e46, c46, e94, c94, e36, c36, e91, c91, e92, c92, h2.rdc, h2.fz]) | (refine qA ?_ ?_; (first | omega | (simp only [qL]; omega) | (simp only [qD] at *; omega))))
  have h3 : At3 (w2.setCell ⟨a, 1, none⟩ (.int .i64 ((s.i : Int) + 1))) a l s.on := h2.set 1 _
  have hb3 := hb2.far (p := ⟨a, 1, none⟩) hne.symm (.int .i64 ((s.i : Int) + 1))
  have k3 := k2.setCell (p := ⟨a, 1, none⟩) (fun _ => rfl) (.int .i64 ((s.i : Int) + 1))
  have esz : (w2.setCell ⟨a, 1, none⟩ (.int .i64 ((s.i : Int) + 1))).heap.size = w2.heap.size := by simp
  generalize (w2.setCell ⟨a, 1, none⟩ (.int .i64 ((s.i : Int) + 1))) = w3 at *
  rw [← esz]
  refine V_str 63 9 _ rfl se_63 ik_5 isStr_9 [byteAt l s.i] rfl rfl (.inr ⟨w3.heap.size, 0, rfl, fun j hj => ?_⟩) ?_
  · obtain rfl : j = 0 := by simpa using hj
    exact (Blk.new w3 5 [by8 (byteAt l s.i)]).rdc 0
  have hltr := hb3.lt
  have hrr := hb3.rdc
  have hrz := hb3.fz
  refine Sm.out ?_
  repeat (first | refine qS ?_ | refine qB ?_ | refine qT rfl ?_ | refine qF rfl ?_ | ((first | refine qR rfl ?_ | refine qK ?_ | refine qE ?_ | refine qW ?_ | refine qM ?_); try simp -dsimp (maxSteps := 2000000) (disch := first | omega | (simp only [qZ] <;> omega) | fail) only [push_cast, ↓qP, ↓reduceIte, seval, hrr, hrz]) | (refine qA ?_ ?_; (first | omega | (simp only [qL]; omega) | (simp only [qD] at *; omega))))
  exact post_out (w1 := w3.alloc (.cells #[.int .u8 ((byteAt l s.i).toNat : Int)] 5)) (cs := [.string (B opSet), .string (B [byteAt l s.i]), .slice none 0 0, .int .i64 0, .int .i64 0]) (h3.alloc _) (hb3.alloc _) (k3.alloc _) hlt rfl (by simp [upd]) (set_is _ (fun _ => False) _ _) (fun b h => h.elim)
end
end Go.Proofs.Ytddichibegppjaa

/- The reference's reader of expressions: size. -/
namespace Go.Proofs.Ytddichibegppjaa
open Go Go.VC

theorem list_eqb (a b : List UInt8) : (a == b) = decide (a = b) := by
  by_cases h : a = b <;> simp [h]
theorem beq_op {a b : List UInt8} {c : Bool} (h : decide (a = b) = c) : (a == b) = c := by rw [list_eqb, h]

section
variable {w : World} {D : Nat → Prop}

theorem size3_any : ∀ e : Re, Good e → wt e ≤ 1000000000 → ∀ (w : World) (cs : List Value), IsRe w D e cs → Calls Try.prog 51 #[.agg cs.toArray] w fun e' w' => e' = .returned (.int .i64 (size3 e)) ∧ Kp (fun _ => False) w w' := by
  refine Re.ind fun op set kids lo hi ih hg hwt w cs h => ?_
  obtain ⟨A, c, rfl⟩ := h.cells
  simp only [wt] at hwt
  have hkl := wts_len kids
  have hgb := hg.bounds
  have hgk := hg.kids
  refine enter (n := 49) (args := [.agg #[.string (B op), .string (B set), .slice A kids.length c, .int .i64 lo, .int .i64 hi]]) Try.func51 rfl rfl rfl (by simp) ?_
  refine Wp.seq (Wp.region rfl ?_)
  simp -dsimp (maxSteps := 2000000) (disch := first | omega | (simp only [qZ] <;> omega) | fail) only [push_cast, ↓qP, ↓reduceIte, seval]
  refine Wp.gen (A := fun W => Kp (fun _ => False) w W ∧ Blk W w.heap.size 33 [.string (B op), .string (B set), .slice A kids.length c, .int .i64 lo, .int .i64 hi]) ⟨(Kp.refl _ w).alloc _, Blk.new _ _ _⟩ ?_
  rintro w1 ⟨k1, hb1⟩
  refine Wp.seq (Wp.region rfl ?_)
  simp -dsimp (maxSteps := 2000000) (disch := first | omega | (simp only [qZ] <;> omega) | fail) only [push_cast, ↓qP, ↓reduceIte, seval]
  refine Wp.cut (fun F W => F 1 = .pointer (some ⟨w.heap.size, 0, none⟩) ∧ F 3 = .int .i64 (sizes3 kids 0) ∧ Kp (fun _ => False) w W ∧ Blk W w.heap.size 33 [.string (B op), .string (B set), .slice A kids.length c, .int .i64 lo, .int .i64 hi]) ?_ ?_
  · repeat (first | refine qS ?_ | refine qB ?_ | refine qT rfl ?_ | refine qF rfl ?_ | ((first | refine qR rfl ?_ | refine qK ?_ | refine qE ?_ | refine qW ?_ | refine qM ?_); try simp -dsimp (maxSteps := 2000000) (disch := first | omega | (simp only [qZ] <;> omega) | fail) only [push_cast, ↓qP, ↓reduceIte, seval]) | (refine qA ?_ ?_; (first | omega | (simp only [qL]; omega) | (simp only [qD] at *; omega))))
    refine Wp.loop (α := Nat) (fun j F W => j ≤ kids.length ∧ F 1 = .pointer (some ⟨w.heap.size, 0, none⟩) ∧ F 3 = .int .i64 (sizes3 (kids.take j) 0) ∧ F 4 = .int .i64 j ∧ Kp (fun _ => False) w W ∧ Blk W w.heap.size 33 [.string (B op), .string (B set), .slice A kids.length c, .int .i64 lo, .int .i64 hi]) (fun j => kids.length - j) 0
      ⟨Nat.zero_le _, by simp [upd], by simp [upd, sizes3], by simp [upd], k1, hb1⟩ ?_
    clear k1 hb1
    rintro j F W ⟨hj, f1, f3, f4, k1, hb1⟩
    have hltp := hb1.lt
    rcases Nat.lt_or_ge j kids.length with hlt | hge
    · have c1 : decide ((j : Int) < (kids.length : Int)) = true := decide_eq_true (by omega)
      have hget : kids[j]? = some kids[j] := List.getElem?_eq_getElem hlt
      obtain ⟨b, o, d0, d1, A1, m1, d2, lo1, hi1, rfl, hbl, hD, q0, q1, q2, q3, q4, hre, _⟩ := h.kid k1 hget
      have hmem : kids[j] ∈ kids := List.getElem_mem hlt
      have hgj := Goods_mem hgk hmem
      have hwj := wts_mem hmem
      have hbd := size3_bound _ hgj
      have hbt := sizes3_bound (ks := kids.take j) (fun k hk => size3_bound _ (Goods_mem hgk (List.mem_of_mem_take hk))) 0 (by omega) (by omega)
      have hsn : sizes3 (kids.take (j + 1)) 0 = min (sizes3 (kids.take j) 0 + size3 kids[j]) 2001 := by rw [List.take_succ_eq_append_getElem hlt, sizes3_snoc]
      repeat (first | refine qS ?_ | refine qB ?_ | refine qT rfl ?_ | refine qF rfl ?_ | ((first | refine qR rfl ?_ | refine qK ?_ | refine qE ?_ | refine qW ?_ | refine qM ?_); try simp -dsimp (maxSteps := 2000000) (disch := first | omega | (simp only [qZ] <;> omega) | fail) only [push_cast, ↓qP, ↓reduceIte, seval, f1, f3, f4, hb1.rdc, c1, q0, q1, q2, q3, q4]) | (refine qA ?_ ?_; (first | omega | (simp only [qL]; omega) | (simp only [qD] at *; omega))))
      refine CallV.of isCall_51 (ih _ hmem hgj (by omega) W _ hre) ?_
      rintro _ W2 ⟨rfl, k2⟩
      have hb2 := k2.Blk hb1 id
      refine Sm.out ?_
      repeat (first | refine qS ?_ | refine qB ?_ | refine qT rfl ?_ | refine qF rfl ?_ | ((first | refine qR rfl ?_ | refine qK ?_ | refine qE ?_ | refine qW ?_ | refine qM ?_); try simp -dsimp (maxSteps := 2000000) (disch := first | omega | (simp only [qZ] <;> omega) | fail) only [push_cast, ↓qP, ↓reduceIte, seval, f1, f3, f4]) | (refine qA ?_ ?_; (first | omega | (simp only [qL]; omega) | (simp only [qD] at *; omega))))
      exact Again.mk (j + 1) ⟨by omega, by simp [upd, f1], by simp [upd, hsn], by simp [upd], k1.trans k2, hb2⟩ (by omega)
    · obtain rfl : j = kids.length := by omega
      have c1 : decide ((kids.length : Int) < (kids.length : Int)) = false := decide_eq_false (by omega)
      repeat (first | refine qS ?_ | refine qB ?_ | refine qT rfl ?_ | refine qF rfl ?_ | ((first | refine qR rfl ?_ | refine qK ?_ | refine qE ?_ | refine qW ?_ | refine qM ?_); try simp -dsimp (maxSteps := 2000000) (disch := first | omega | (simp only [qZ] <;> omega) | fail) only [push_cast, ↓qP, ↓reduceIte, seval, f1, f3, f4, hb1.rdc, c1]) | (refine qA ?_ ?_; (first | omega | (simp only [qL]; omega) | (simp only [qD] at *; omega))))
      exact Mid.mk ⟨by simp [upd, f1], by simp [upd, f3], k1, hb1⟩
  clear k1 hb1
  rintro F w2 ⟨f1, f3, k1, hb1⟩
  have hltp := hb1.lt
  have hbt := sizes3_bound (ks := kids) (fun k hk => size3_bound _ (Goods_mem hgk hk)) 0 (by omega) (by omega)
  have e1 : (op == [115, 101, 116]) = decide (op = opSet) := list_eqb _ _
  have e2 : (op == [98, 111, 108]) = decide (op = opBol) := list_eqb _ _
  have e3 : (op == [101, 111, 108]) = decide (op = opEol) := list_eqb _ _
  have e4 : (op == [97, 108, 116]) = decide (op = opAlt) := list_eqb _ _
  have e5 : (op == [114, 101, 112]) = decide (op = opRep) := list_eqb _ _
  simp only [size3]
  generalize sizes3 kids 0 = n at *
  by_cases c1 : op = opSet
  · rw [decide_eq_true c1] at e1
    rw [if_pos c1]
    repeat (first | refine qS ?_ | refine qB ?_ | refine qT rfl ?_ | refine qF rfl ?_ | ((first | refine qR rfl ?_ | refine qK ?_ | refine qE ?_ | refine qW ?_ | refine qM ?_); try simp -dsimp (maxSteps := 2000000) (disch := first | omega | (simp only [qZ] <;> omega) | fail) only [push_cast, ↓qP, ↓reduceIte, seval, f1, f3, hb1.rdc, e1]) | (refine qA ?_ ?_; (first | omega | (simp only [qL]; omega) | (simp only [qD] at *; omega))))
    exact Ret.mk ⟨rfl, k1⟩
  rw [decide_eq_false c1] at e1
  rw [if_neg c1]
  by_cases c2 : op = opBol
  · rw [decide_eq_true c2] at e2
    rw [if_pos c2]
    repeat (first | refine qS ?_ | refine qB ?_ | refine qT rfl ?_ | refine qF rfl ?_ | ((first | refine qR rfl ?_ | refine qK ?_ | refine qE ?_ | refine qW ?_ | refine qM ?_); try simp -dsimp (maxSteps := 2000000) (disch := first | omega | (simp only [qZ] <;> omega) | fail) only [push_cast, ↓qP, ↓reduceIte, seval, f1, f3, hb1.rdc, e1, e2]) | (refine qA ?_ ?_; (first | omega | (simp only [qL]; omega) | (simp only [qD] at *; omega))))
    exact Ret.mk ⟨rfl, k1⟩
  rw [decide_eq_false c2] at e2
  rw [if_neg c2]
  by_cases c3 : op = opEol
  · rw [decide_eq_true c3] at e3
    rw [if_pos c3]
    repeat (first | refine qS ?_ | refine qB ?_ | refine qT rfl ?_ | refine qF rfl ?_ | ((first | refine qR rfl ?_ | refine qK ?_ | refine qE ?_ | refine qW ?_ | refine qM ?_); try simp -dsimp (maxSteps := 2000000) (disch := first | omega | (simp only [qZ] <;> omega) | fail) only [push_cast, ↓qP, ↓reduceIte, seval, f1, f3, hb1.rdc, e1, e2, e3]) | (refine qA ?_ ?_; (first | omega | (simp only [qL]; omega) | (simp only [qD] at *; omega))))
    exact Ret.mk ⟨rfl, k1⟩
  rw [decide_eq_false c3] at e3
  rw [if_neg c3]
  by_cases c4 : op = opAlt
  · rw [decide_eq_true c4] at e4
    rw [if_pos c4]
    repeat (first | refine qS ?_ | refine qB ?_ | refine qT rfl ?_ | refine qF rfl ?_ | ((first | refine qR rfl ?_ | refine qK ?_ | refine qE ?_ | refine qW ?_ | refine qM ?_); try simp -dsimp (maxSteps := 2000000) (disch := first | omega | (simp only [qZ] <;> omega) | fail) only [push_cast, ↓qP, ↓reduceIte, seval, f1, f3, hb1.rdc, e1, e2, e3, e4]) | (refine qA ?_ ?_; (first | omega | (simp only [qL]; omega) | (simp only [qD] at *; omega))))
    exact Ret.mk ⟨rfl, k1⟩
  rw [decide_eq_false c4] at e4
  rw [if_neg c4]
  by_cases c5 : op = opRep
  · rw [decide_eq_true c5] at e5
    rw [if_pos c5]
    obtain ⟨b1, b2, b3, b4, b5, _⟩ := hgb c5
    clear hgb ih
    rcases Bool.eq_false_or_eq_true (decide (hi < 0)) with c6 | c6
    · have c6' : hi < 0 := by simpa using c6
      rw [if_pos c6']
      have hm1 : 0 ≤ n * (lo + 1) := Int.mul_nonneg hbt.1 (by omega)
      have hm2 : n * (lo + 1) ≤ 2001 * 256 := Int.mul_le_mul hbt.2 (by omega) (by omega) (by omega)
      repeat (first | refine qS ?_ | refine qB ?_ | refine qT rfl ?_ | refine qF rfl ?_ | ((first | refine qR rfl ?_ | refine qK ?_ | refine qE ?_ | refine qW ?_ | refine qM ?_); try simp -dsimp (maxSteps := 2000000) (disch := first | omega | (simp only [qZ] <;> omega) | fail) only [push_cast, ↓qP, ↓reduceIte, seval, f1, f3, hb1.rdc, e1, e2, e3, e4, e5, c6]) | (refine qA ?_ ?_; (first | omega | (simp only [qL]; omega) | (simp only [qD] at *; omega))))
      exact Ret.mk ⟨rfl, k1⟩
    · have c6' : ¬ hi < 0 := by simpa using c6
      rw [if_neg c6']
      have hm1 : 0 ≤ n * max 1 hi := Int.mul_nonneg hbt.1 (by omega)
      have hm2 : n * max 1 hi ≤ 2001 * 256 := Int.mul_le_mul hbt.2 (by omega) (by omega) (by omega)
      repeat (first | refine qS ?_ | refine qB ?_ | refine qT rfl ?_ | refine qF rfl ?_ | ((first | refine qR rfl ?_ | refine qK ?_ | refine qE ?_ | refine qW ?_ | refine qM ?_); try simp -dsimp (maxSteps := 2000000) (disch := first | omega | (simp only [qZ] <;> omega) | fail) only [push_cast, ↓qP, ↓reduceIte, seval, f1, f3, hb1.rdc, e1, e2, e3, e4, e5, c6]) | (refine qA ?_ ?_; (first | omega | (simp only [qL]; omega) | (simp only [qD] at *; omega))))
      exact Ret.mk ⟨rfl, k1⟩
  rw [decide_eq_false c5] at e5
  rw [if_neg c5]
  repeat (first | refine qS ?_ | refine qB ?_ | refine qT rfl ?_ | refine qF rfl ?_ | ((first | refine qR rfl ?_ | refine qK ?_ | refine qE ?_ | refine qW ?_ | refine qM ?_); try simp -dsimp (maxSteps := 2000000) (disch := first | omega | (simp only [qZ] <;> omega) | fail) only [push_cast, ↓qP, ↓reduceIte, seval, f1, f3, hb1.rdc, e1, e2, e3, e4, e5]) | (refine qA ?_ ?_; (first | omega | (simp only [qL]; omega) | (simp only [qD] at *; omega))))
  exact Ret.mk ⟨rfl, k1⟩
end
end Go.Proofs.Ytddichibegppjaa

/- The reference's Parse. -/
namespace Go.Proofs.Ytddichibegppjaa
open Go Go.VC

theorem reads3 (l : List UInt8) (hl : l.length ≤ 1000000) (a : Nat) : ∀ k, CA l a k ∧ CP l a k ∧ CB l a k := by
  intro k
  induction k using Nat.strongRecOn with
  | _ k ih => exact ⟨atom3_any k hl fun j hj => (ih j hj).2.2, pieces3_any k hl fun j hj => (ih j hj).1, branches3_any k hl fun j hj => (ih j hj).2.1⟩

theorem post_cell_tmp {w : World} {a t b i n u : Nat} {vs : List Value} {F : Fr} {R : Ending → World → Prop} (hF : F a = .pointer (some ⟨b, i, none⟩)) (ht : tk Try.prog t = n + 2) (hr : VC.rdn w b i n = some vs) (h : R (.returned (.tuple #[.agg vs.toArray, F u])) w) : post Try.prog [.cell a t, .tmp u] R .mk .ret F w := by
  have : resVs Try.prog w F [.cell a t, .tmp u] = some (.tuple #[.agg vs.toArray, F u]) := by
    simp only [resVs, List.mapM_cons, List.mapM_nil, resV, hF, ht, hr, Option.map_some]
    rfl
  unfold post
  show (match resVs Try.prog w F [.cell a t, .tmp u] with | some v => Ret R v w | none => False)
  rw [this]
  exact Ret.mk h

/-- Where Parse stands. -/
structure Pr (w : World) (a q : Nat) (l : List UInt8) (s : S3) (e : Re) (cs : List Value) (W : World) : Prop where
  at_ : At3 W a l s
  rb : Blk W w.heap.size 33 zRe
  qb : Blk W q 33 cs
  re : IsRe W (fun b => w.heap.size < b ∧ b < W.heap.size ∧ b ≠ q ∧ b ≠ a) e cs
  kp : Kp (fun _ => False) w W
  ha : w.heap.size < a
  hq : a < q
section
variable {w W W2 : World} {a q : Nat} {l : List UInt8} {s s' : S3} {e : Re} {cs : List Value}
theorem Pr.keep (h : Pr w a q l s e cs W) (h2 : At3 W2 a l s') (hk : Kp (· = a) W W2) : Pr w a q l s' e cs W2 := by
  have h1 := h.ha
  have h3 := h.hq
  exact ⟨h2, hk.Blk h.rb (by omega), hk.Blk h.qb (by omega), h.re.Kp hk (fun b hb e => hb.2.2.2 e) (fun b hb => ⟨hb.1, Nat.lt_of_lt_of_le hb.2.1 hk.size, hb.2.2⟩), h.kp.trans' hk (fun i hi e => by omega), h1, h3⟩
theorem Pr.keep0 (h : Pr w a q l s e cs W) (hk : Kp (fun _ => False) W W2) : Pr w a q l s e cs W2 := h.keep (hk.Blk h.at_ id) (hk.mono fun _ _ h => h.elim)
theorem Pr.drew (h : Pr w a q l s e cs W) : Pr w a q l s e cs W.drew := h.keep0 (Kp.refl _ W).drew

/-- What Parse brings. -/
abbrev OutP (w : World) (l : List UInt8) (e : Ending) (W : World) : Prop :=
  ∃ cs, e = .returned (.tuple #[.agg cs.toArray, .int .i64 (parse3 l).2]) ∧ IsRe W (fun b => w.heap.size ≤ b ∧ b < W.heap.size) (parse3 l).1 cs ∧ Kp (fun _ => False) w W

theorem parse3_any (w : World) (l : List UInt8) (hl : l.length ≤ 1000000) : Calls Try.prog 20 #[.string (B l)] w (OutP w l) := by
  obtain ⟨⟨e, s0⟩, hr⟩ := start_some l
  have hp : parse3 l = if s0.f ≠ 0 then (Re.zero, s0.f) else if s0.i < l.length then (Re.zero, 1) else if size3 e > 2000 then (Re.zero, 5) else (e, 0) := by
    unfold parse3; rw [hr]
  have hok := (reads_ok l _).2.2.2.2 _ _ _ (St3_start l) hr
  have hwt := (reads_wt l _).2.2.2.2 _ _ _ (St3_start l) hr
  have hsi : s0.i ≤ l.length + 101 := by have := hok.1.2.1; simp at this; omega
  replace hp : Hide _ := ⟨hp⟩
  replace hok : Hide _ := ⟨hok⟩
  replace hwt : Hide _ := ⟨hwt⟩
  refine enter (n := 53) (args := [.string (B l)]) Try.func20 rfl rfl rfl (by simp) ?_
  repeat (first | refine qS ?_ | refine qB ?_ | refine qT rfl ?_ | refine qF rfl ?_ | ((first | refine qR rfl ?_ | refine qK ?_ | refine qE ?_ | refine qW ?_ | refine qM ?_); try simp -dsimp (maxSteps := 2000000) (disch := first | omega | (simp only [qZ] <;> omega) | fail) only [push_cast, ↓qP, ↓reduceIte, seval]) | (refine qA ?_ ?_; (first | omega | (simp only [qL]; omega) | (simp only [qD] at *; omega))))
  have hA : At3 ((w.alloc (.cells zRe.toArray 33)).alloc (.cells #[.string (B l), .int .i64 0, .int .i64 0, .int .i64 0] 82)) (w.heap.size + 1) l ⟨0, 0, 0⟩ := by
    have := Blk.new (w.alloc (.cells zRe.toArray 33)) 82 [.string (B l), .int .i64 0, .int .i64 0, .int .i64 0]
    rw [World.size_alloc] at this
    exact this
  refine CallV.gen (A := fun W => At3 W (w.heap.size + 1) l ⟨0, 0, 0⟩ ∧ Blk W w.heap.size 33 zRe ∧ Kp (fun _ => False) w W) ⟨hA, (Blk.new _ _ _).alloc _, ((Kp.refl _ w).alloc _).alloc _⟩ ?_
  clear hA
  rintro w1 ⟨hA, hB, k1⟩
  refine CallV.of isCall_49 ((reads3 l hl (w.heap.size + 1) (4 * l.length + 3)).2.2 _ w1 hA (St3_start l) ⟨_, hr⟩) ?_
  rintro _ w2 ⟨t', s1', cs, he, rfl, hre, hA2, k2⟩
  rw [hr] at he
  injection he with he
  injection he with he1 he2
  subst he1; subst he2
  clear hr
  obtain ⟨o, se, A1, c1, c2, lo1, hi1', rfl⟩ := hre.form
  have hB2 := k2.Blk hB (by omega)
  have hA1l := hA.lt
  have hB1l := hB.lt
  have hA2l := hA2.lt
  have k3 : Kp (fun _ => False) w w2 := k1.trans' k2 (fun i hi e => by omega)
  refine Sm.out ?_
  repeat (first | ((fail_if_success (first | refine qY (n := 3) ?_ | refine qV (n := 3) ?_)); refine qS ?_) | refine qB ?_ | refine qT rfl ?_ | refine qF rfl ?_ | ((first | refine qR rfl ?_ | refine qK ?_ | refine qE ?_ | refine qW ?_ | refine qM ?_); try simp -dsimp (maxSteps := 2000000) (disch := first | omega | (simp only [qZ] <;> omega) | fail) only [push_cast, ↓qP, ↓reduceIte, seval]) | (refine qA ?_ ?_; (first | omega | (simp only [qL]; omega) | (simp only [qD] at *; omega))))
  obtain ⟨q, hq⟩ : ∃ q, q = w2.heap.size := ⟨_, rfl⟩
  rw [← hq]
  obtain ⟨a, ha⟩ : ∃ a, a = w.heap.size + 1 := ⟨_, rfl⟩
  rw [← ha] at hA hA2 k2 hA1l hA2l ⊢
  refine Wp.gen (w := (w2.alloc (.cells zRe.toArray 33)).setCells q 0 [.string (B o), .string (B se), .slice A1 c1 c2, .int .i64 lo1, .int .i64 hi1']) (A := Pr w a q l s0 e [.string (B o), .string (B se), .slice A1 c1 c2, .int .i64 lo1, .int .i64 hi1']) ?_ ?_
  · have hk : Kp (· = q) w2 ((w2.alloc (.cells zRe.toArray 33)).setCells q 0 [.string (B o), .string (B se), .slice A1 c1 c2, .int .i64 lo1, .int .i64 hi1']) := ((Kp.refl (· = q) w2).alloc _).setCells (fun _ => rfl) [.string (B o), .string (B se), .slice A1 c1 c2, .int .i64 lo1, .int .i64 hi1'] 0
    have hk1 := k1.size
    have hk2 := k2.size
    exact ⟨Blk.farCells (by omega) _ _ _ (hA2.alloc _), Blk.farCells (by omega) _ _ _ (hB2.alloc _), Blk.setAll (cs := zRe) (by rw [hq]; exact Blk.new w2 33 zRe) rfl,
      hre.Kp hk (fun b hb e => by have := hb.2; omega) (fun b hb => ⟨by have := hb.1; omega, Nat.lt_of_lt_of_le hb.2 hk.size, by have := hb.2; omega, by have := hb.1; omega⟩), k3.trans' hk (fun i hi e => by omega), by omega, by omega⟩
  clear k3 k2 k1 hB2 hA1l hB1l hA2l hA hB hA2 hre hq
  intro w3 h3
  have hltr := h3.rb.lt
  obtain ⟨s1, hs1⟩ : ∃ s1 : S3, s1 = if s0.f == 0 && decide ((s0.i : Int) < (l.length : Int)) then s0.fail 1 else s0 := ⟨_, rfl⟩
  refine Wp.cut (fun F W => F 2 = .pointer (some ⟨w.heap.size, 0, none⟩) ∧ F 3 = .int .i64 0 ∧ F 4 = .pointer (some ⟨a, 0, none⟩) ∧ F 5 = .pointer (some ⟨q, 0, none⟩) ∧ Pr w a q l s1 e [.string (B o), .string (B se), .slice A1 c1 c2, .int .i64 lo1, .int .i64 hi1'] W) ?_ ?_
  · have hlta := h3.at_.lt
    rcases Bool.eq_false_or_eq_true (s0.f == 0) with g1 | g1
    · rcases Bool.eq_false_or_eq_true (decide ((s0.i : Int) < (l.length : Int))) with g2 | g2
      · rw [g1, g2] at hs1
        simp only [Bool.and_self, if_true] at hs1
        refine Wp.seq (Wp.draw [0, 1, 3, 7, 15, 31, 63, 127, 255, 511, 63, 1087, 3135, 7231, 15423, 32767, 65535] [] (.op 0 false false [] <| .op 1 false false [] <| .op 2 false false [] <| .op 3 false false [] <| .op 4 false false [] <| .op 5 false false [] <| .op 6 false false [] <| .op 7 false false [] <| .op 8 false false [] <| .op 9 false false [] <| .op 10 false false [] <| .op 11 false false [] <| .op 12 false false [] <| .op 13 false false [] <| .op 14 false false [] <| .op 15 false false [] <| .op 16 false false [] <| .nil) mixed (by kernel_rfl) ?_)
        simp -dsimp (maxSteps := 2000000) (disch := first | omega | (simp only [qZ] <;> omega) | fail) only [push_cast, ↓qP, ↓reduceIte, seval, h3.at_.rdc, g1, g2]
        refine Sm.out ?_
        repeat (first | refine qS ?_ | refine qB ?_ | refine qT rfl ?_ | refine qF rfl ?_ | ((first | refine qR rfl ?_ | refine qK ?_ | refine qE ?_ | refine qW ?_ | refine qM ?_); try simp -dsimp (maxSteps := 2000000) (disch := first | omega | (simp only [qZ] <;> omega) | fail) only [push_cast, ↓qP, ↓reduceIte, seval, g1, g2]) | (refine qA ?_ ?_; (first | omega | (simp only [qL]; omega) | (simp only [qD] at *; omega))))
        refine CallV.of isCall_50 (fail3 h3.at_.drew 1) ?_
        rintro _ w7 ⟨rfl, h7, k7⟩
        refine Sm.out ?_
        repeat (first | refine qS ?_ | refine qB ?_ | refine qT rfl ?_ | refine qF rfl ?_ | ((first | refine qR rfl ?_ | refine qK ?_ | refine qE ?_ | refine qW ?_ | refine qM ?_); try simp -dsimp (maxSteps := 2000000) (disch := first | omega | (simp only [qZ] <;> omega) | fail) only [push_cast, ↓qP, ↓reduceIte, seval]) | (refine qA ?_ ?_; (first | omega | (simp only [qL]; omega) | (simp only [qD] at *; omega))))
        exact Mid.mk ⟨by simp [upd, ha], by simp [upd], by simp [upd, ha], by simp [upd], hs1 ▸ h3.drew.keep h7 k7⟩
      · rw [g1, g2] at hs1
        simp only [Bool.and_false, Bool.false_eq_true, if_false] at hs1
        refine Wp.seq (Wp.draw [0, 1, 3, 7, 15, 31, 63, 127, 255, 511, 63, 1087, 3135, 7231, 15423, 32767, 65535] [] (.op 0 false false [] <| .op 1 false false [] <| .op 2 false false [] <| .op 3 false false [] <| .op 4 false false [] <| .op 5 false false [] <| .op 6 false false [] <| .op 7 false false [] <| .op 8 false false [] <| .op 9 false false [] <| .op 10 false false [] <| .op 11 false false [] <| .op 12 false false [] <| .op 13 false false [] <| .op 14 false false [] <| .op 15 false false [] <| .op 16 false false [] <| .nil) mixed (by kernel_rfl) ?_)
        simp -dsimp (maxSteps := 2000000) (disch := first | omega | (simp only [qZ] <;> omega) | fail) only [push_cast, ↓qP, ↓reduceIte, seval, h3.at_.rdc, g1, g2]
        refine Sm.out ?_
        repeat (first | refine qS ?_ | refine qB ?_ | refine qT rfl ?_ | refine qF rfl ?_ | ((first | refine qR rfl ?_ | refine qK ?_ | refine qE ?_ | refine qW ?_ | refine qM ?_); try simp -dsimp (maxSteps := 2000000) (disch := first | omega | (simp only [qZ] <;> omega) | fail) only [push_cast, ↓qP, ↓reduceIte, seval, g1, g2]) | (refine qA ?_ ?_; (first | omega | (simp only [qL]; omega) | (simp only [qD] at *; omega))))
        exact Mid.mk ⟨by simp [upd, ha], by simp [upd], by simp [upd, ha], by simp [upd], hs1 ▸ h3.drew⟩
    · rw [g1] at hs1
      simp only [Bool.false_and, Bool.false_eq_true, if_false] at hs1
      refine Wp.seq (Wp.draw [0, 1, 3, 7, 15, 31, 63, 127, 255, 511, 63, 1087, 3135, 7231, 15423, 32767, 65535] [] (.op 0 false false [] <| .op 1 false false [] <| .op 2 false false [] <| .op 3 false false [] <| .op 4 false false [] <| .op 5 false false [] <| .op 6 false false [] <| .op 7 false false [] <| .op 8 false false [] <| .op 9 false false [] <| .op 10 false false [] <| .op 11 false false [] <| .op 12 false false [] <| .op 13 false false [] <| .op 14 false false [] <| .op 15 false false [] <| .op 16 false false [] <| .nil) mixed (by kernel_rfl) ?_)
      simp -dsimp (maxSteps := 2000000) (disch := first | omega | (simp only [qZ] <;> omega) | fail) only [push_cast, ↓qP, ↓reduceIte, seval, h3.at_.rdc, g1]
      refine Sm.out ?_
      repeat (first | refine qS ?_ | refine qB ?_ | refine qT rfl ?_ | refine qF rfl ?_ | ((first | refine qR rfl ?_ | refine qK ?_ | refine qE ?_ | refine qW ?_ | refine qM ?_); try simp -dsimp (maxSteps := 2000000) (disch := first | omega | (simp only [qZ] <;> omega) | fail) only [push_cast, ↓qP, ↓reduceIte, seval, g1]) | (refine qA ?_ ?_; (first | omega | (simp only [qL]; omega) | (simp only [qD] at *; omega))))
      exact Mid.mk ⟨by simp [upd, ha], by simp [upd], by simp [upd, ha], by simp [upd], hs1 ▸ h3.drew⟩
  clear h3 hltr
  rintro F w4 ⟨f2, f3, f4, f5, h4⟩
  have hltr := h4.rb.lt
  have hltq := h4.qb.lt
  obtain ⟨s2, hs2⟩ : ∃ s2 : S3, s2 = if s1.f == 0 && decide (size3 e > 2000) then s1.fail 5 else s1 := ⟨_, rfl⟩
  refine Wp.cut (fun F W => F 2 = .pointer (some ⟨w.heap.size, 0, none⟩) ∧ F 3 = .int .i64 0 ∧ F 4 = .pointer (some ⟨a, 0, none⟩) ∧ F 5 = .pointer (some ⟨q, 0, none⟩) ∧ Pr w a q l s2 e [.string (B o), .string (B se), .slice A1 c1 c2, .int .i64 lo1, .int .i64 hi1'] W) ?_ ?_
  · have hlta := h4.at_.lt
    rcases Bool.eq_false_or_eq_true (s1.f == 0) with g1 | g1
    · have hs0 : s0.f = 0 := by
        have g1' : s1.f = 0 := by simpa using g1
        rw [hs1] at g1'
        split at g1'
        · exact absurd g1' (fail_f _ (by decide))
        · exact g1'
      have hgood := hok.out.2 hs0
      have hw := hwt.out hs0
      have hi0 := (hok.out.1.2.2 hs0).2.2
      change wt e + 3 * 0 ≤ _ at hw
      repeat (first | refine qS ?_ | refine qB ?_ | refine qT rfl ?_ | refine qF rfl ?_ | ((first | refine qR rfl ?_ | refine qK ?_ | refine qE ?_ | refine qW ?_ | refine qM ?_); try simp -dsimp (maxSteps := 2000000) (disch := first | omega | (simp only [qZ] <;> omega) | fail) only [push_cast, ↓qP, ↓reduceIte, seval, f2, f3, f4, f5, h4.at_.rdc, g1, h4.qb.rdc]) | (refine qA ?_ ?_; (first | omega | (simp only [qL]; omega) | (simp only [qD] at *; omega))))
      refine CallV.of isCall_51 (size3_any e hgood (by omega) w4 _ h4.re) ?_
      rintro _ w5 ⟨rfl, k5⟩
      have h5 := h4.keep0 k5
      rcases Bool.eq_false_or_eq_true (decide (size3 e > 2000)) with g2 | g2
      · rw [g1, g2] at hs2
        simp only [Bool.and_self, if_true] at hs2
        refine Sm.out ?_
        repeat (first | refine qS ?_ | refine qB ?_ | refine qT rfl ?_ | refine qF rfl ?_ | ((first | refine qR rfl ?_ | refine qK ?_ | refine qE ?_ | refine qW ?_ | refine qM ?_); try simp -dsimp (maxSteps := 2000000) (disch := first | omega | (simp only [qZ] <;> omega) | fail) only [push_cast, ↓qP, ↓reduceIte, seval, f2, f3, f4, f5, g2]) | (refine qA ?_ ?_; (first | omega | (simp only [qL]; omega) | (simp only [qD] at *; omega))))
        refine CallV.of isCall_50 (fail3 h5.at_ 5) ?_
        rintro _ w7 ⟨rfl, h7, k7⟩
        refine Sm.out ?_
        repeat (first | refine qS ?_ | refine qB ?_ | refine qT rfl ?_ | refine qF rfl ?_ | ((first | refine qR rfl ?_ | refine qK ?_ | refine qE ?_ | refine qW ?_ | refine qM ?_); try simp -dsimp (maxSteps := 2000000) (disch := first | omega | (simp only [qZ] <;> omega) | fail) only [push_cast, ↓qP, ↓reduceIte, seval]) | (refine qA ?_ ?_; (first | omega | (simp only [qL]; omega) | (simp only [qD] at *; omega))))
        exact Mid.mk ⟨by simp [upd, f2], by simp [upd, f3], by simp [upd, f4], by simp [upd, f5], hs2 ▸ h5.keep h7 k7⟩
      · rw [g1, g2] at hs2
        simp only [Bool.and_false, Bool.false_eq_true, if_false] at hs2
        refine Sm.out ?_
        repeat (first | refine qS ?_ | refine qB ?_ | refine qT rfl ?_ | refine qF rfl ?_ | ((first | refine qR rfl ?_ | refine qK ?_ | refine qE ?_ | refine qW ?_ | refine qM ?_); try simp -dsimp (maxSteps := 2000000) (disch := first | omega | (simp only [qZ] <;> omega) | fail) only [push_cast, ↓qP, ↓reduceIte, seval, f2, f3, f4, f5, g2]) | (refine qA ?_ ?_; (first | omega | (simp only [qL]; omega) | (simp only [qD] at *; omega))))
        exact Mid.mk ⟨by simp [upd, f2], by simp [upd, f3], by simp [upd, f4], by simp [upd, f5], hs2 ▸ h5⟩
    · rw [g1] at hs2
      simp only [Bool.false_and, Bool.false_eq_true, if_false] at hs2
      repeat (first | refine qS ?_ | refine qB ?_ | refine qT rfl ?_ | refine qF rfl ?_ | ((first | refine qR rfl ?_ | refine qK ?_ | refine qE ?_ | refine qW ?_ | refine qM ?_); try simp -dsimp (maxSteps := 2000000) (disch := first | omega | (simp only [qZ] <;> omega) | fail) only [push_cast, ↓qP, ↓reduceIte, seval, f2, f3, f4, f5, h4.at_.rdc, g1]) | (refine qA ?_ ?_; (first | omega | (simp only [qL]; omega) | (simp only [qD] at *; omega))))
      exact Mid.mk ⟨by simp [upd, f2], by simp [upd, f3], by simp [upd, f4], by simp [upd, f5], hs2 ▸ h4⟩
  clear h4 hltr hltq f2 f3 f4 f5
  rintro F w5 ⟨f2, f3, f4, f5, h5⟩
  have hltr := h5.rb.lt
  have hltq := h5.qb.lt
  have hlta := h5.at_.lt
  have hrr := h5.rb.rdc
  have hrz := h5.rb.fz
  have hpp : parse3 l = if s2.f ≠ 0 then (Re.zero, s2.f) else (e, 0) := by
    have hp' := hp.out
    by_cases c1 : s0.f = 0
    · rw [if_neg (by simpa using c1)] at hp'
      by_cases c2 : s0.i < l.length
      · rw [if_pos c2] at hp'
        have : s1 = s0.fail 1 := by rw [hs1]; simp [c1, c2]
        have e1 : s1.f = 1 := by rw [this]; simp [S3.fail, c1]
        have : s2 = s1 := by rw [hs2]; simp [e1]
        rw [hp', this, e1]; rfl
      · rw [if_neg c2] at hp'
        have e0 : s1 = s0 := by rw [hs1]; simp [c2]
        by_cases c3 : size3 e > 2000
        · rw [if_pos c3] at hp'
          have : s2 = s0.fail 5 := by rw [hs2, e0]; simp [c1, c3]
          have e1 : s2.f = 5 := by rw [this]; simp [S3.fail, c1]
          rw [hp', e1]; rfl
        · rw [if_neg c3] at hp'
          have : s2 = s0 := by rw [hs2, e0]; simp [c3]
          rw [hp', this, if_neg (by simpa using c1)]
    · rw [if_pos c1] at hp'
      have e0 : s1 = s0 := by rw [hs1]; simp [c1]
      have : s2 = s0 := by rw [hs2, e0]; simp [c1]
      rw [hp', this, if_pos c1]
  unfold OutP
  rw [hpp]
  clear hpp hp hok hwt hs1 hs2 hsi
  have hha := h5.ha
  have kend : ∀ cs : List Value, Kp (fun _ => False) w (w5.setCells w.heap.size 0 cs) := fun cs => Kp.setCells h5.kp (fun h => absurd h (Nat.lt_irrefl _)) cs 0
  rcases Bool.eq_false_or_eq_true (s2.f != 0) with g1 | g1
  · rw [if_pos (by simpa using g1)]
    refine Sm.out ?_
    repeat (first | ((fail_if_success (first | refine qY (n := 8) ?_ | refine qV (n := 8) ?_)); refine qS ?_) | refine qB ?_ | refine qT rfl ?_ | refine qF rfl ?_ | ((first | refine qR rfl ?_ | refine qK ?_ | refine qE ?_ | refine qW ?_ | refine qM ?_); try simp -dsimp (maxSteps := 2000000) (disch := first | omega | (simp only [qZ] <;> omega) | fail) only [push_cast, ↓qP, ↓reduceIte, seval, f2, f3, f4, f5, h5.at_.rdc, g1]) | (refine qA ?_ ?_; (first | omega | (simp only [qL]; omega) | (simp only [qD] at *; omega))))
    have h6 := h5.drew
    have hrr6 := h6.rb.rdc
    have hrz6 := h6.rb.fz
    refine Wp.seq (Wp.draw [0, 0, 2, 6, 14, 1, 63] [5] (.op 0 false false [] <| .op 1 false false [] <| .op 2 false false [] <| .op 3 false false [] <| .op 4 false true [] <| .op 5 true false [] <| .op 6 false false [] <| .nil) mixed (by kernel_rfl) ?_)
    simp -dsimp (maxSteps := 2000000) (disch := first | omega | (simp only [qZ] <;> omega) | fail) only [push_cast, ↓qP, ↓reduceIte, seval, h5.at_.rdc, f2, f4, hrr, hrz]
    refine Sm.out ?_
    repeat (first | refine qS ?_ | refine qB ?_ | refine qT rfl ?_ | refine qF rfl ?_ | ((first | refine qR rfl ?_ | refine qK ?_ | refine qE ?_ | refine qW ?_ | refine qM ?_); try simp -dsimp (maxSteps := 2000000) (disch := first | omega | (simp only [qZ] <;> omega) | fail) only [push_cast, ↓qP, ↓reduceIte, seval, f2, f4, h5.at_.rdc, hrr, hrz]) | (refine qA ?_ ?_; (first | omega | (simp only [qL]; omega) | (simp only [qD] at *; omega))))
    have h2 := (h6.rb.setAll (vs := zRe) rfl).rdn
    refine post_cell_tmp (vs := zRe) (by simp [upd, f2]) tk_33 h2 ?_
    exact ⟨zRe, by simp [upd], zRe_is _ _, Kp.setCells h6.kp (fun h => absurd h (Nat.lt_irrefl _)) zRe 0⟩
  · rw [if_neg (by simpa using g1)]
    repeat (first | refine qS ?_ | refine qB ?_ | refine qT rfl ?_ | refine qF rfl ?_ | ((first | refine qR rfl ?_ | refine qK ?_ | refine qE ?_ | refine qW ?_ | refine qM ?_); try simp -dsimp (maxSteps := 2000000) (disch := first | omega | (simp only [qZ] <;> omega) | fail) only [push_cast, ↓qP, ↓reduceIte, seval, f2, f3, f4, f5, h5.at_.rdc, g1, h5.qb.rdc, hrr, hrz]) | (refine qA ?_ ?_; (first | omega | (simp only [qL]; omega) | (simp only [qD] at *; omega))))
    have h2 := (h5.rb.setAll (vs := [.string (B o), .string (B se), .slice A1 c1 c2, .int .i64 lo1, .int .i64 hi1']) rfl).rdn
    refine post_cell_tmp (by simp [upd, f2]) tk_33 h2 ?_
    have hk : Kp (· = w.heap.size) w5 (w5.setCells w.heap.size 0 [.string (B o), .string (B se), .slice A1 c1 c2, .int .i64 lo1, .int .i64 hi1']) := (Kp.refl (· = w.heap.size) w5).setCells (fun _ => rfl) [.string (B o), .string (B se), .slice A1 c1 c2, .int .i64 lo1, .int .i64 hi1'] 0
    exact ⟨[.string (B o), .string (B se), .slice A1 c1 c2, .int .i64 lo1, .int .i64 hi1'], by simp [upd], h5.re.Kp hk (fun b hb e => by have := hb.1; omega) (fun b hb => ⟨by have := hb.1; omega, Nat.lt_of_lt_of_le hb.2.1 hk.size⟩), kend [.string (B o), .string (B se), .slice A1 c1 c2, .int .i64 lo1, .int .i64 hi1']⟩
end
end Go.Proofs.Ytddichibegppjaa

/- The reference's matcher: has, both, same. -/
namespace Go.Proofs.Ytddichibegppjaa
open Go Go.VC

/-- Bools that may be read. -/
def Bs (w : World) (b : Nat) (fr : List Bool) : Prop := b < w.heap.size ∧ ∀ j, j < fr.length → rdc w b j = some (.bool (fr.getD j false))
theorem Bs.Kp {w w' : World} {b : Nat} {fr : List Bool} (h : Bs w b fr) (hk : VC.Kp (fun _ => False) w w') : Bs w' b fr := ⟨Nat.lt_of_lt_of_le h.1 hk.size, fun j hj => by rw [hk.rdc h.1 id]; exact h.2 j hj⟩
theorem blk_bs {w : World} {b : Nat} {fr : List Bool} (h : Blk w b 4 (bools fr)) : Bs w b fr := ⟨h.lt, fun j hj => by rw [h.rdc]; exact bools_get fr j hj⟩
theorem bools_len (fr : List Bool) : (bools fr).length = fr.length := by simp [bools]

theorem has_any (set : List UInt8) (c : UInt8) (w : World) (hl : set.length ≤ 1000000000) : Calls Try.prog 77 #[.string (B set), by8 c] w fun e w' => e = .returned (.bool (set.contains c)) ∧ w = w' := by
  unfold by8
  refine enter (n := 17) (args := [.string (B set), .int .u8 (c.toNat : Int)]) Try.func77 rfl rfl rfl (by simp) ?_
  repeat (first | refine qS ?_ | refine qB ?_ | refine qT rfl ?_ | refine qF rfl ?_ | ((first | refine qR rfl ?_ | refine qK ?_ | refine qE ?_ | refine qW ?_ | refine qM ?_); try simp -dsimp (maxSteps := 2000000) (disch := first | omega | (simp only [qZ] <;> omega) | fail) only [push_cast, ↓qP, ↓reduceIte, seval]) | (refine qA ?_ ?_; (first | omega | (simp only [qL]; omega) | (simp only [qD] at *; omega))))
  refine Wp.loop (α := Nat) (fun j F W => j ≤ set.length ∧ F 0 = .string (B set) ∧ F 1 = .int .u8 (c.toNat : Int) ∧ F 5 = .int .i64 j ∧ w = W ∧ Hide (∀ i, i < j → byteAt set i ≠ c)) (fun j => set.length - j) 0
    ⟨Nat.zero_le _, by simp [upd, arg], by simp [upd, arg], by simp [upd], rfl, ⟨fun i hi => by omega⟩⟩ ?_
  rintro j F _ ⟨hj, f0, f1, f5, rfl, hno⟩
  rcases Nat.lt_or_ge j set.length with hlt | hge
  · have c1 : decide ((j : Int) < (set.length : Int)) = true := decide_eq_true (by omega)
    have e1 : (((byteAt set j).toNat : Int) == (c.toNat : Int)) = (byteAt set j == c) := u8_eq' _ _
    rcases Bool.eq_false_or_eq_true (byteAt set j == c) with c2 | c2
    · repeat (first | refine qS ?_ | refine qB ?_ | refine qT rfl ?_ | refine qF rfl ?_ | ((first | refine qR rfl ?_ | refine qK ?_ | refine qE ?_ | refine qW ?_ | refine qM ?_); try simp -dsimp (maxSteps := 2000000) (disch := first | omega | (simp only [qZ] <;> omega) | fail) only [push_cast, ↓qP, ↓reduceIte, seval, f0, f1, f5, c1, e1, c2]) | (refine qA ?_ ?_; (first | omega | (simp only [qL]; omega) | (simp only [qD] at *; omega))))
      refine Ret.mk ⟨?_, rfl⟩
      congr 2
      have : byteAt set j = c := by simpa using c2
      rw [← this]
      symm
      rw [List.contains_iff_mem]
      simp only [byteAt, List.getD_eq_getElem?_getD, List.getElem?_eq_getElem hlt, Option.getD_some]
      exact List.getElem_mem hlt
    · repeat (first | refine qS ?_ | refine qB ?_ | refine qT rfl ?_ | refine qF rfl ?_ | ((first | refine qR rfl ?_ | refine qK ?_ | refine qE ?_ | refine qW ?_ | refine qM ?_); try simp -dsimp (maxSteps := 2000000) (disch := first | omega | (simp only [qZ] <;> omega) | fail) only [push_cast, ↓qP, ↓reduceIte, seval, f0, f1, f5, c1, e1, c2]) | (refine qA ?_ ?_; (first | omega | (simp only [qL]; omega) | (simp only [qD] at *; omega))))
      refine Again.mk (j + 1) ⟨by omega, by simp [upd, f0], by simp [upd, f1], by simp [upd], rfl, ⟨fun i hi => ?_⟩⟩ (by omega)
      rcases Nat.lt_or_ge i j with h | h
      · exact hno.out i h
      · obtain rfl : i = j := by omega
        simpa using c2
  · have c1 : decide ((j : Int) < (set.length : Int)) = false := decide_eq_false (by omega)
    repeat (first | refine qS ?_ | refine qB ?_ | refine qT rfl ?_ | refine qF rfl ?_ | ((first | refine qR rfl ?_ | refine qK ?_ | refine qE ?_ | refine qW ?_ | refine qM ?_); try simp -dsimp (maxSteps := 2000000) (disch := first | omega | (simp only [qZ] <;> omega) | fail) only [push_cast, ↓qP, ↓reduceIte, seval, f0, f1, f5, c1]) | (refine qA ?_ ?_; (first | omega | (simp only [qL]; omega) | (simp only [qD] at *; omega))))
    refine Ret.mk ⟨?_, rfl⟩
    congr 2
    symm
    rw [← Bool.not_eq_true, List.contains_iff_mem]
    intro hm
    obtain ⟨i, hi, e⟩ := List.getElem_of_mem hm
    have := hno.out i (by omega)
    simp only [byteAt, List.getD_eq_getElem?_getD, List.getElem?_eq_getElem hi, Option.getD_some] at this
    exact this e

section
variable {w : World} {a b : Nat} {x y : List Bool} {c d : Nat}

theorem orB_get (x y : List Bool) (h : x.length = y.length) (j : Nat) : (orB x y).getD j false = (x.getD j false || y.getD j false) := by
  simp only [orB, List.getD_eq_getElem?_getD, List.getElem?_zipWith]
  rcases Nat.lt_or_ge j x.length with h1 | h1
  · rw [List.getElem?_eq_getElem h1, List.getElem?_eq_getElem (h ▸ h1)]; simp
  · rw [List.getElem?_eq_none h1, List.getElem?_eq_none (h ▸ h1)]; simp
theorem list_ext_getD {x y : List Bool} (hl : x.length = y.length) (h : ∀ j, j < x.length → x.getD j false = y.getD j false) : x = y := by
  refine List.ext_getElem hl fun j h1 h2 => ?_
  have := h j h1
  simpa [List.getD_eq_getElem?_getD, List.getElem?_eq_getElem h1, List.getElem?_eq_getElem h2] using this

/-- Those below a place, the others none. -/
def upto (x : List Bool) (k : Nat) : List Bool := x.zipIdx.map fun (b, j) => decide (j < k) && b
theorem upto_len (x : List Bool) (k : Nat) : (upto x k).length = x.length := by simp [upto]
theorem upto_get (x : List Bool) (k j : Nat) : (upto x k).getD j false = (decide (j < k) && x.getD j false) := by
  simp only [upto, List.getD_eq_getElem?_getD, List.getElem?_map, List.getElem?_zipIdx, Nat.zero_add]
  cases x[j]? <;> simp
theorem upto_zero (x : List Bool) : upto x 0 = List.replicate x.length false := by
  refine list_ext_getD (by simp [upto]) fun j hj => ?_
  rw [upto_get]
  simp [List.getD_eq_getElem?_getD, List.getElem?_replicate]
  split <;> rfl
theorem upto_all (x : List Bool) : upto x x.length = x := by
  refine list_ext_getD (upto_len _ _) fun j hj => ?_
  rw [upto_len] at hj
  rw [upto_get]; simp [hj]
theorem upto_succ (x : List Bool) (k : Nat) (hk : k < x.length) : upto x (k + 1) = (upto x k).set k (x.getD k false) := by
  refine list_ext_getD (by simp [upto_len]) fun j hj => ?_
  rw [upto_len] at hj
  rw [upto_get]
  by_cases e : j = k
  · subst e; simp [List.getD_eq_getElem?_getD, List.getElem?_set, upto_len, hk]
  · have : ((upto x k).set k (x.getD k false)).getD j false = (upto x k).getD j false := by
      simp [List.getD_eq_getElem?_getD, List.getElem?_set, Ne.symm e]
    rw [this, upto_get]
    congr 1
    rw [decide_eq_decide]; omega
theorem upto_skip (x : List Bool) (k : Nat) (hk : x.getD k false = false) : upto x (k + 1) = upto x k := by
  refine list_ext_getD (by simp [upto_len]) fun j hj => ?_
  rw [upto_get, upto_get]
  by_cases e : j = k
  · subst e; simp only [List.getD_eq_getElem?_getD] at hk ⊢; rw [hk]; simp
  · congr 1
    rw [decide_eq_decide]; omega

theorem both_any (hx : Bs w a x) (hy : Bs w b y) (hl : x.length = y.length) (hbig : x.length ≤ 1000000000) : Calls Try.prog 78 #[.slice (some ⟨a, 0, none⟩) x.length c, .slice (some ⟨b, 0, none⟩) y.length d] w fun e w' =>
    e = .returned (.slice (some ⟨w.heap.size, 0, none⟩) x.length x.length) ∧ Blk w' w.heap.size 4 (bools (orB x y)) ∧ Kp (fun _ => False) w w' := by
  have hol := orB_len hl
  refine enter (n := 30) (args := [.slice (some ⟨a, 0, none⟩) x.length c, .slice (some ⟨b, 0, none⟩) y.length d]) Try.func78 rfl rfl rfl (by simp) ?_
  repeat (first | refine qS ?_ | refine qB ?_ | refine qT rfl ?_ | refine qF rfl ?_ | ((first | refine qR rfl ?_ | refine qK ?_ | refine qE ?_ | refine qW ?_ | refine qM ?_); try simp -dsimp (maxSteps := 2000000) (disch := first | omega | (simp only [qZ] <;> omega) | fail) only [push_cast, ↓qP, ↓reduceIte, seval]) | (refine qA ?_ ?_; (first | omega | (simp only [qL]; omega) | (simp only [qD] at *; omega))))
  refine Wp.loop (α := Nat) (fun j F W => j ≤ x.length ∧ F 0 = .slice (some ⟨a, 0, none⟩) x.length c ∧ F 1 = .slice (some ⟨b, 0, none⟩) y.length d ∧ F 5 = .slice (some ⟨w.heap.size, 0, none⟩) x.length x.length ∧ F 6 = .int .i64 j ∧ Blk W w.heap.size 4 (bools (upto (orB x y) j)) ∧ Kp (fun _ => False) w W) (fun j => x.length - j) 0
    ⟨Nat.zero_le _, by simp [upd, arg], by simp [upd, arg], by simp [upd], by simp [upd], ?_, (Kp.refl _ w).alloc _⟩ ?_
  · have := Blk.new w 4 (zeros [.bool false] x.length)
    rw [zeros_one] at this
    rw [upto_zero, hol]
    simpa [bools, zeros_one] using this
  rintro j F W ⟨hj, f0, f1, f5, f6, hq, hk⟩
  have hx2 := hx.Kp hk
  have hy2 := hy.Kp hk
  have hltx := hx2.1
  have hlty := hy2.1
  have hltq := hq.lt
  rcases Nat.lt_or_ge j x.length with hlt | hge
  · have c1 : decide ((j : Int) < (x.length : Int)) = true := decide_eq_true (by omega)
    have r1 := hx2.2 j hlt
    have r2 := hy2.2 j (by omega)
    have hg := orB_get x y hl j
    have hset := hq.set j (.bool ((orB x y).getD j false))
    rw [bools_set, ← upto_succ _ _ (by omega)] at hset
    have hcell : rdc W w.heap.size j = some (.bool ((upto (orB x y) j).getD j false)) := by
      rw [hq.rdc]; exact bools_get _ _ (by rw [upto_len]; omega)
    rcases Bool.eq_false_or_eq_true (x.getD j false) with c2 | c2
    · rw [c2] at r1 hg
      rw [hg] at hset
      repeat (first | refine qS ?_ | refine qB ?_ | refine qT rfl ?_ | refine qF rfl ?_ | ((first | refine qR rfl ?_ | refine qK ?_ | refine qE ?_ | refine qW ?_ | refine qM ?_); try simp -dsimp (maxSteps := 2000000) (disch := first | omega | (simp only [qZ] <;> omega) | fail) only [push_cast, ↓qP, ↓reduceIte, seval, f0, f1, f5, f6, c1, r1, hcell, hq.fz]) | (refine qA ?_ ?_; (first | omega | (simp only [qL]; omega) | (simp only [qD] at *; omega))))
      exact Again.mk (j + 1) ⟨by omega, by simp [upd, f0], by simp [upd, f1], by simp [upd, f5], by simp [upd], hset, hk.setCell (fun h => absurd h (Nat.lt_irrefl _)) _⟩ (by omega)
    · rw [c2] at r1 hg
      rw [hg, Bool.false_or] at hset
      repeat (first | refine qS ?_ | refine qB ?_ | refine qT rfl ?_ | refine qF rfl ?_ | ((first | refine qR rfl ?_ | refine qK ?_ | refine qE ?_ | refine qW ?_ | refine qM ?_); try simp -dsimp (maxSteps := 2000000) (disch := first | omega | (simp only [qZ] <;> omega) | fail) only [push_cast, ↓qP, ↓reduceIte, seval, f0, f1, f5, f6, c1, r1, r2, hcell, hq.fz]) | (refine qA ?_ ?_; (first | omega | (simp only [qL]; omega) | (simp only [qD] at *; omega))))
      exact Again.mk (j + 1) ⟨by omega, by simp [upd, f0], by simp [upd, f1], by simp [upd, f5], by simp [upd], hset, hk.setCell (fun h => absurd h (Nat.lt_irrefl _)) _⟩ (by omega)
  · have c1 : decide ((j : Int) < (x.length : Int)) = false := decide_eq_false (by omega)
    obtain rfl : j = x.length := by omega
    rw [show x.length = (orB x y).length from hol.symm, upto_all] at hq
    repeat (first | refine qS ?_ | refine qB ?_ | refine qT rfl ?_ | refine qF rfl ?_ | ((first | refine qR rfl ?_ | refine qK ?_ | refine qE ?_ | refine qW ?_ | refine qM ?_); try simp -dsimp (maxSteps := 2000000) (disch := first | omega | (simp only [qZ] <;> omega) | fail) only [push_cast, ↓qP, ↓reduceIte, seval, f0, f1, f5, f6, c1]) | (refine qA ?_ ?_; (first | omega | (simp only [qL]; omega) | (simp only [qD] at *; omega))))
    exact Ret.mk ⟨by simp, hq, hk⟩

theorem same_any (hx : Bs w a x) (hy : Bs w b y) (hl : x.length = y.length) (hbig : x.length ≤ 1000000000) : Calls Try.prog 79 #[.slice (some ⟨a, 0, none⟩) x.length c, .slice (some ⟨b, 0, none⟩) y.length d] w fun e w' =>
    e = .returned (.bool (decide (x = y))) ∧ Kp (fun _ => False) w w' := by
  refine enter (n := 21) (args := [.slice (some ⟨a, 0, none⟩) x.length c, .slice (some ⟨b, 0, none⟩) y.length d]) Try.func79 rfl rfl rfl (by simp) ?_
  repeat (first | refine qS ?_ | refine qB ?_ | refine qT rfl ?_ | refine qF rfl ?_ | ((first | refine qR rfl ?_ | refine qK ?_ | refine qE ?_ | refine qW ?_ | refine qM ?_); try simp -dsimp (maxSteps := 2000000) (disch := first | omega | (simp only [qZ] <;> omega) | fail) only [push_cast, ↓qP, ↓reduceIte, seval]) | (refine qA ?_ ?_; (first | omega | (simp only [qL]; omega) | (simp only [qD] at *; omega))))
  refine Wp.loop (α := Nat) (fun j F W => j ≤ x.length ∧ F 0 = .slice (some ⟨a, 0, none⟩) x.length c ∧ F 1 = .slice (some ⟨b, 0, none⟩) y.length d ∧ F 5 = .int .i64 j ∧ Kp (fun _ => False) w W ∧ Hide (∀ i, i < j → x.getD i false = y.getD i false)) (fun j => x.length - j) 0
    ⟨Nat.zero_le _, by simp [upd, arg], by simp [upd, arg], by simp [upd], Kp.refl _ w, ⟨fun i hi => by omega⟩⟩ ?_
  rintro j F W ⟨hj, f0, f1, f5, hk, hs⟩
  have hx2 := hx.Kp hk
  have hy2 := hy.Kp hk
  have hltx := hx2.1
  have hlty := hy2.1
  rcases Nat.lt_or_ge j x.length with hlt | hge
  · have c1 : decide ((j : Int) < (x.length : Int)) = true := decide_eq_true (by omega)
    have r1 := hx2.2 j hlt
    have r2 := hy2.2 j (by omega)
    repeat (first | refine qS ?_ | refine qB ?_ | refine qT rfl ?_ | refine qF rfl ?_ | ((first | refine qR rfl ?_ | refine qK ?_ | refine qE ?_ | refine qW ?_ | refine qM ?_); try simp -dsimp (maxSteps := 2000000) (disch := first | omega | (simp only [qZ] <;> omega) | fail) only [push_cast, ↓qP, ↓reduceIte, seval, f0, f1, f5, c1]) | (refine qA ?_ ?_; (first | omega | (simp only [qL]; omega) | (simp only [qD] at *; omega))))
    refine Wp.draw [0, 0, 3, 7, 0, 0, 48, 112, 255] [] (.op 0 false false [] <| .op 1 false false [] <| .op 2 false false [] <| .op 3 false false [] <| .op 4 false false [] <| .op 5 false false [] <| .op 6 false false [] <| .op 7 false false [] <| .op 8 false false [] <| .nil) mixed (by kernel_rfl) ?_
    simp -dsimp (maxSteps := 2000000) (disch := first | omega | (simp only [qZ] <;> omega) | fail) only [push_cast, ↓qP, ↓reduceIte, seval, f0, f1, f5, r1, r2]
    refine ⟨by omega, ?_⟩
    rcases Bool.eq_false_or_eq_true (x.getD j false == y.getD j false) with c2 | c2
    · have c2' : (!x.getD j false == y.getD j false) = false := by rw [c2]; rfl
      refine Sm.out ?_
      repeat (first | refine qS ?_ | refine qB ?_ | refine qT rfl ?_ | refine qF rfl ?_ | ((first | refine qR rfl ?_ | refine qK ?_ | refine qE ?_ | refine qW ?_ | refine qM ?_); try simp -dsimp (maxSteps := 2000000) (disch := first | omega | (simp only [qZ] <;> omega) | fail) only [push_cast, ↓qP, ↓reduceIte, seval, f0, f1, f5, c2']) | (refine qA ?_ ?_; (first | omega | (simp only [qL]; omega) | (simp only [qD] at *; omega))))
      refine Again.mk (j + 1) ⟨by omega, by simp [upd, f0], by simp [upd, f1], by simp [upd], hk.drew, ⟨fun i hi => ?_⟩⟩ (by omega)
      rcases Nat.lt_or_ge i j with h | h
      · exact hs.out i h
      · obtain rfl : i = j := by omega
        simpa using c2
    · have c2' : (!x.getD j false == y.getD j false) = true := by rw [c2]; rfl
      refine Sm.out ?_
      repeat (first | refine qS ?_ | refine qB ?_ | refine qT rfl ?_ | refine qF rfl ?_ | ((first | refine qR rfl ?_ | refine qK ?_ | refine qE ?_ | refine qW ?_ | refine qM ?_); try simp -dsimp (maxSteps := 2000000) (disch := first | omega | (simp only [qZ] <;> omega) | fail) only [push_cast, ↓qP, ↓reduceIte, seval, f0, f1, f5, c2']) | (refine qA ?_ ?_; (first | omega | (simp only [qL]; omega) | (simp only [qD] at *; omega))))
      refine Ret.mk ⟨?_, hk.drew⟩
      rw [decide_eq_false (fun e => by rw [e] at c2; simp at c2)]
  · have c1 : decide ((j : Int) < (x.length : Int)) = false := decide_eq_false (by omega)
    obtain rfl : j = x.length := by omega
    repeat (first | refine qS ?_ | refine qB ?_ | refine qT rfl ?_ | refine qF rfl ?_ | ((first | refine qR rfl ?_ | refine qK ?_ | refine qE ?_ | refine qW ?_ | refine qM ?_); try simp -dsimp (maxSteps := 2000000) (disch := first | omega | (simp only [qZ] <;> omega) | fail) only [push_cast, ↓qP, ↓reduceIte, seval, f0, f1, f5, c1]) | (refine qA ?_ ?_; (first | omega | (simp only [qL]; omega) | (simp only [qD] at *; omega))))
    refine Ret.mk ⟨?_, hk⟩
    rw [decide_eq_true (list_ext_getD hl hs.out)]
end
end Go.Proofs.Ytddichibegppjaa
