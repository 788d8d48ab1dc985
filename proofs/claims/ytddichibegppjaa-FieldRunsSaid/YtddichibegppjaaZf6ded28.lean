/- The program's reader: sets. -/
import Derived.Test.YtddichibegppjaaZ2d4fdec
import Derived.Test.YtddichibegppjaaVs
import Derived.Test.YtddichibegppjaaP7b
import Derived.Test.YtddichibegppjaaP9
import Derived.Test.YtddichibegppjaaZ948b658
import Derived.Test.YtddichibegppjaaVu
set_option linter.unusedSimpArgs false
set_option linter.unusedVariables false
set_option maxRecDepth 100000
set_option maxHeartbeats 8000000
attribute [local irreducible] Go.VC.OpV Go.VC.CallV Go.VC.Wp Go.VC.post
namespace Go.Proofs.Ytddichibegppjaa
open Go Go.VC Go.RowKit

/-- What a reader's part brings, or its fault. -/
abbrev OutG (w : World) (a : Nat) (l : List UInt8) (r : Option (Re × S3)) (e : Ending) (w' : World) : Prop :=
  (∃ t s' cs, r = some (t, s') ∧ s'.f = 0 ∧ e = .returned (.agg cs.toArray) ∧ IsRe w' (fun b => w.heap.size ≤ b ∧ b < w'.heap.size) t cs ∧ Rd w' a l s'.i s'.d ∧ Kp (· = a) w w') ∨
  (∃ t s', r = some (t, s') ∧ s'.f ≠ 0 ∧ Pn w a e w')
theorem putR_one {set : List Bool} {c : Nat} (h : c < set.length) : putR set c c = set.set c true := by
  rw [← putK_all, putK_succ _ _ _ h (Nat.le_refl _), putK_zero]
theorem bools_noSet : bools noSet = List.replicate 256 (.bool false) := by simp [bools, noSet]

section
variable {a : Nat} {l : List UInt8} {s s' : S3} {w w1 w2 : World} {set : List Bool}
structure S5 (w : World) (a : Nat) (l : List UInt8) (s : S3) (set : List Bool) (w' : World) : Prop where
  rd : Rd w' a l s.i s.d
  r : Blk w' w.heap.size 33 zRe
  g : Blk w' (w.heap.size + 1) 149 (bools set)
  kp : Kp (· = a) w w'
  lt : a < w.heap.size
  len : set.length = 256
theorem S5.keep (h : S5 w a l s set w1) (h2 : Rd w2 a l s'.i s'.d) (hk : Kp (· = a) w1 w2) : S5 w a l s' set w2 :=
  ⟨h2, hk.Blk h.r (by have := h.lt; omega), hk.Blk h.g (by have := h.lt; omega), h.kp.trans hk, h.lt, h.len⟩
theorem S5.item (h : S5 w a l s set w1) {set' : List Bool} (h2 : Rd w2 a l s'.i s'.d) (hg : Blk w2 (w.heap.size + 1) 149 (bools set')) (hl : set'.length = set.length) (hk : Kp (fun b => b = a ∨ b = w.heap.size + 1) w1 w2) : S5 w a l s' set' w2 :=
  ⟨h2, hk.Blk h.r (by have := h.lt; omega), hg, h.kp.trans' hk (fun i hi e => by have := h.lt; omega), h.lt, hl.trans h.len⟩
theorem S5.out (h : S5 w a l s' set w1) {r : Option (Re × S3)} {x : List UInt8} {F : Fr} (hr : r = some (.node opSet x [] 0 0, s')) (hf : s'.f = 0) (hF : F 2 = .pointer (some ⟨w.heap.size, 0, none⟩)) :
    post Try.prog [.cell 2 33] (OutG w a l r) .mk .ret F (w1.setCells w.heap.size 0 [.string (B opSet), .string (B x), .slice none 0 0, .int .i64 0, .int .i64 0]) := by
  have h2 := (h.r.setAll (vs := [.string (B opSet), .string (B x), .slice none 0 0, .int .i64 0, .int .i64 0]) rfl).rdn
  exact post_cell hF tk_33 h2 (.inl ⟨_, s', _, hr, hf, rfl, set_is _ _ _ _, Blk.farCells (Nat.ne_of_lt h.lt) _ _ _ h.rd, Kp.setCells h.kp (fun h' => absurd h' (Nat.lt_irrefl _)) _ _⟩)
theorem S5.pn (h : S5 w a l s set w1) {r : Option (Re × S3)} {t : Re} {s' : S3} (hr : r = some (t, s')) (hf : s'.f ≠ 0) {k : Int} (h1 : 1 ≤ k) (h2 : k ≤ 5) {w3 : World} (hk : Kp (fun b => b = a ∨ b = w.heap.size + 1) w1 w3) : OutG w a l r (.panicked (flt k)) w3 :=
  .inr ⟨t, s', hr, hf, k, rfl, h1, h2, h.kp.trans' hk (fun i hi e => by have := h.lt; omega)⟩
theorem zeros149 (o : Oper) (F : Fr) (w : World) (ho : o.op = .build 149 #[]) : (execOp (ev F) o).run Try.prog w = .ok (.value (.agg (List.replicate 256 (.bool false)).toArray)) w := by
  simp only [execOp, ho]
  kernel_rfl

theorem brk_any (h : Rd w a l (s.i + 1) s.d) (ha : a ≠ 1) (hM : MaxL w) (hs : s.f = 0) (hi : s.i + 1 ≤ l.length) (hl : l.length ≤ 1000000) : Calls Try.prog 104 #[.pointer (some ⟨a, 0, none⟩)] w (OutG w a l (bracket3 l s)) := by
  have hlt := h.lt
  have h1w : 1 < w.heap.size := rdc_lt (b := 1) (i := 0) hM.choose_spec
  refine enter (n := 88) (args := [.pointer (some ⟨a, 0, none⟩)]) Try.func104 rfl rfl rfl (by simp) ?_
  refine Sm.out ?_
  repeat (first | ((fail_if_success (first | refine qY (n := 2) ?_ | refine qV (n := 2) ?_)); refine qS ?_) | refine qB ?_ | refine qT rfl ?_ | refine qF rfl ?_ | ((first | refine qR rfl ?_ | refine qK ?_ | refine qE ?_ | refine qW ?_ | refine qM ?_); try simp -dsimp (maxSteps := 2000000) (disch := first | omega | (simp only [qZ] <;> omega) | fail) only [push_cast, ↓qP, ↓reduceIte, seval]) | (refine qA ?_ ?_; (first | omega | (simp only [qL]; omega) | (simp only [qD] at *; omega))))
  have hnew : S5 w a l s.on noSet ((w.alloc (.cells zRe.toArray 33)).alloc (.cells (List.replicate 256 (Value.bool false)).toArray 149)) := by
    refine ⟨(h.alloc _).alloc _, (Blk.new _ _ _).alloc _, ?_, ((Kp.refl _ w).alloc _).alloc _, hlt, rfl⟩
    have := Blk.new (w.alloc (.cells zRe.toArray 33)) 149 (List.replicate 256 (Value.bool false))
    rw [bools_noSet]
    simpa using this
  refine Wp.gen (A := S5 w a l s.on noSet) hnew ?_
  clear hnew h
  intro W h
  obtain ⟨r, hr⟩ : ∃ r, r = w.heap.size := ⟨_, rfl⟩
  rw [← hr]
  repeat (first | refine qS ?_ | refine qB ?_ | refine qT rfl ?_ | refine qF rfl ?_ | ((first | refine qR rfl ?_ | refine qK ?_ | refine qE ?_ | refine qW ?_ | refine qM ?_); try simp -dsimp (maxSteps := 2000000) (disch := first | omega | (simp only [qZ] <;> omega) | fail) only [push_cast, ↓qP, ↓reduceIte, seval]) | (refine qA ?_ ?_; (first | omega | (simp only [qL]; omega) | (simp only [qD] at *; omega))))
  refine CallV.of isCall_89 (take_one h.rd 94) ?_
  rintro _ w1 ⟨rfl, h1', k1⟩
  have h1 := h.keep (s' := { s with i := if hasAt l s.on.i 94 then s.on.i + 1 else s.on.i }) h1' k1
  obtain ⟨nt, hnt⟩ : ∃ nt, nt = hasAt l s.on.i 94 := ⟨_, rfl⟩
  rw [← hnt] at h1 ⊢
  clear h h1' k1
  obtain ⟨s2, hs2⟩ : ∃ s2 : S3, s2 = { s with i := if nt then s.on.i + 1 else s.on.i } := ⟨_, rfl⟩
  rw [← hs2] at h1
  have hbr : bracket3 l s = match items3 l (l.length + 2) true noSet s2 with
      | none => none
      | some (none, s3) => some (Re.zero, s3)
      | some (some set, s3) => some (.node opSet (bytesOf set nt) [] 0 0, s3) := by
    have e : (more3 l s.on && byteAt l s.on.i == 94) = nt := by
      rw [hnt]; unfold more3 hasAt S3.on; rw [hs]
      rw [show decide (((s.i + 1 : Nat) : Int) < (l.length : Int)) = decide (s.i + 1 < l.length) from decide_eq_decide.2 (by omega)]
      simp
    have e2 : s2 = (if nt then s.on.on else s.on) := by rw [hs2]; cases nt <;> rfl
    unfold bracket3
    simp only [e]
    rw [e2]
    rfl
  have hi2 : s2.i ≤ l.length ∧ s2.f = 0 ∧ s2.d = s.d := by
    rw [hs2]
    refine ⟨?_, hs, rfl⟩
    show (if nt then s.i + 1 + 1 else s.i + 1) ≤ _
    cases hc : nt with
    | false => exact hi
    | true =>
      have : s.i + 1 < l.length := hasAt_lt (hnt ▸ hc)
      show s.i + 1 + 1 ≤ _; omega
  clear hs2 hnt
  obtain ⟨R, hR⟩ : ∃ R, items3 l (l.length + 2) true noSet s2 = R := ⟨_, rfl⟩
  rw [hR] at hbr
  refine Sm.out ?_
  repeat (first | ((fail_if_success (first | refine qY (n := 3) ?_ | refine qV (n := 3) ?_)); refine qS ?_) | refine qB ?_ | refine qT rfl ?_ | refine qF rfl ?_ | ((first | refine qR rfl ?_ | refine qK ?_ | refine qE ?_ | refine qW ?_ | refine qM ?_); try simp -dsimp (maxSteps := 2000000) (disch := first | omega | (simp only [qZ] <;> omega) | fail) only [push_cast, ↓qP, ↓reduceIte, seval]) | (refine qA ?_ ?_; (first | omega | (simp only [qL]; omega) | (simp only [qD] at *; omega))))
  refine Wp.cutQ (fun F' w' => F' 2 = .pointer (some ⟨r, 0, none⟩) ∧ F' 3 = .pointer (some ⟨r + 1, 0, none⟩) ∧ F' 4 = .bool (!nt) ∧ ∃ set s3, R = some (some set, s3) ∧ s3.f = 0 ∧ S5 w a l s3 set w') ?_ ?_
  · repeat (first | refine qS ?_ | refine qB ?_ | refine qT rfl ?_ | refine qF rfl ?_ | ((first | refine qR rfl ?_ | refine qK ?_ | refine qE ?_ | refine qW ?_ | refine qM ?_); try simp -dsimp (maxSteps := 2000000) (disch := first | omega | (simp only [qZ] <;> omega) | fail) only [push_cast, ↓qP, ↓reduceIte, seval]) | (refine qA ?_ ?_; (first | omega | (simp only [qL]; omega) | (simp only [qD] at *; omega))))
    refine Wp.loop (α := Nat) (fun k F W => F 0 = .pointer (some ⟨a, 0, none⟩) ∧ F 2 = .pointer (some ⟨r, 0, none⟩) ∧ F 3 = .pointer (some ⟨r + 1, 0, none⟩) ∧ F 4 = .bool (!nt) ∧
      ∃ first set s', F 5 = .bool first ∧ S5 w a l s' set W ∧ s'.f = 0 ∧ s'.i ≤ l.length ∧ l.length + 2 ≤ s'.i + k ∧ Hide (items3 l k first set s' = R)) (fun k => k) (l.length + 2)
      ⟨by simp [upd, arg], by simp [upd], by simp [upd], by simp [upd], true, noSet, s2, by simp [upd], h1, hi2.2.1, hi2.1, by omega, ⟨hR⟩⟩ ?_
    clear h1 hR
    replace hbr : Hide _ := ⟨hbr⟩
    rintro k F W ⟨f0, f2, f3, f4, first, set, s', f5, h, hf, hi', hk, hit⟩
    obtain ⟨k, rfl⟩ : ∃ k', k = k' + 1 := ⟨k - 1, by omega⟩
    have hit1 := hit.out.symm
    simp only [items3] at hit1
    rw [if_neg (by rw [hf]; simp)] at hit1
    clear hit
    -- the closing bracket?
    refine Wp.cutQ (fun F w4 => F 0 = .pointer (some ⟨a, 0, none⟩) ∧ F 2 = .pointer (some ⟨r, 0, none⟩) ∧ F 3 = .pointer (some ⟨r + 1, 0, none⟩) ∧ F 4 = .bool (!nt) ∧ S5 w a l s' set w4 ∧ (s'.i < l.length → (byteAt l s'.i == 93 && !first) = false)) ?_ ?_
    · cases first with
      | true =>
        repeat (first | refine qS ?_ | refine qB ?_ | refine qT rfl ?_ | refine qF rfl ?_ | ((first | refine qR rfl ?_ | refine qK ?_ | refine qE ?_ | refine qW ?_ | refine qM ?_); try simp -dsimp (maxSteps := 2000000) (disch := first | omega | (simp only [qZ] <;> omega) | fail) only [push_cast, ↓qP, ↓reduceIte, seval, f5]) | (refine qA ?_ ?_; (first | omega | (simp only [qL]; omega) | (simp only [qD] at *; omega))))
        exact Mid.mk ⟨by simp [upd, f0], by simp [upd, f2], by simp [upd, f3], by simp [upd, f4], h, fun _ => by simp⟩
      | false =>
        repeat (first | refine qS ?_ | refine qB ?_ | refine qT rfl ?_ | refine qF rfl ?_ | ((first | refine qR rfl ?_ | refine qK ?_ | refine qE ?_ | refine qW ?_ | refine qM ?_); try simp -dsimp (maxSteps := 2000000) (disch := first | omega | (simp only [qZ] <;> omega) | fail) only [push_cast, ↓qP, ↓reduceIte, seval, f5, f0]) | (refine qA ?_ ?_; (first | omega | (simp only [qL]; omega) | (simp only [qD] at *; omega))))
        refine CallV.of isCall_89 (take_one h.rd 93) ?_
        rintro _ w5 ⟨rfl, h5, k5⟩
        cases hc : hasAt l s'.i 93 with
        | true =>
          rw [hc] at h5
          have hlt2 := hasAt_lt hc
          rw [hasAt_eq _ hlt2] at hc
          rw [if_neg (by omega), hc] at hit1
          refine Sm.out ?_
          repeat (first | refine qS ?_ | refine qB ?_ | refine qT rfl ?_ | refine qF rfl ?_ | ((first | refine qR rfl ?_ | refine qK ?_ | refine qE ?_ | refine qW ?_ | refine qM ?_); try simp -dsimp (maxSteps := 2000000) (disch := first | omega | (simp only [qZ] <;> omega) | fail) only [push_cast, ↓qP, ↓reduceIte, seval, f5]) | (refine qA ?_ ?_; (first | omega | (simp only [qL]; omega) | (simp only [qD] at *; omega))))
          exact Mid.mk ⟨by simp [upd, f2], by simp [upd, f3], by simp [upd, f4], set, s'.on, hit1, hf, h.keep h5 k5⟩
        | false =>
          rw [hc] at h5
          refine Sm.out ?_
          repeat (first | refine qS ?_ | refine qB ?_ | refine qT rfl ?_ | refine qF rfl ?_ | ((first | refine qR rfl ?_ | refine qK ?_ | refine qE ?_ | refine qW ?_ | refine qM ?_); try simp -dsimp (maxSteps := 2000000) (disch := first | omega | (simp only [qZ] <;> omega) | fail) only [push_cast, ↓qP, ↓reduceIte, seval, f5]) | (refine qA ?_ ?_; (first | omega | (simp only [qL]; omega) | (simp only [qD] at *; omega))))
          refine Mid.mk ⟨by simp [upd, f0], by simp [upd, f2], by simp [upd, f3], by simp [upd, f4], h.keep h5 k5, fun hl => ?_⟩
          rw [hasAt_eq _ hl] at hc
          rw [hc]; rfl
    clear f0 f2 f3 f4 f5 h
    intro F W hMd
    obtain ⟨f0, f2, f3, f4, h, hcl⟩ := hMd.out
    clear hMd
    have hb := h.rd.blk.rdc
    have he := empty_iff (l := l) (i := s'.i)
    rcases Nat.lt_or_ge s'.i l.length with hi1 | hi1
    case inr =>
      rw [if_pos (by omega)] at hit1
      rw [decide_eq_true hi1] at he
      repeat (first | refine qS ?_ | refine qB ?_ | refine qT rfl ?_ | refine qF rfl ?_ | ((first | refine qR rfl ?_ | refine qK ?_ | refine qE ?_ | refine qW ?_ | refine qM ?_); try simp -dsimp (maxSteps := 2000000) (disch := first | omega | (simp only [qZ] <;> omega) | fail) only [push_cast, ↓qP, ↓reduceIte, seval, f0, hb, he]) | (refine qA ?_ ?_; (first | omega | (simp only [qL]; omega) | (simp only [qD] at *; omega))))
      exact Pan.mk (h.pn (t := Re.zero) (s' := s'.fail 2) (by rw [hbr.out, hit1]) (fail_f _ (by decide)) (by decide) (by decide) (Kp.refl _ _))
    rw [decide_eq_false (by omega)] at he
    rw [if_neg (by omega), if_neg (by rw [hcl hi1]; simp)] at hit1
    clear hcl
    repeat (first | refine qS ?_ | refine qB ?_ | refine qT rfl ?_ | refine qF rfl ?_ | ((first | refine qR rfl ?_ | refine qK ?_ | refine qE ?_ | refine qW ?_ | refine qM ?_); try simp -dsimp (maxSteps := 2000000) (disch := first | omega | (simp only [qZ] <;> omega) | fail) only [push_cast, ↓qP, ↓reduceIte, seval, f0, f3, hb, he]) | (refine qA ?_ ?_; (first | omega | (simp only [qL]; omega) | (simp only [qD] at *; omega))))
    refine CallV.of isCall_111 (item_any (set := set) h.rd (by rw [hr]; exact h.g) h.len ha (by omega) (hM.kp h.kp (fun e => ha e.symm)) hf rfl hi1 hl) ?_
    obtain ⟨q1, q2, q3, q4⟩ := item3_facts l s' set hi1
    have q5 := item3_more l s' set hi1 hf
    have q7 := item3_ok l s' set hi1
    rintro e w5 (⟨z1, rfl, h5, g5, k5⟩ | ⟨z1, j, rfl, j1, j2, k5⟩)
    case inr =>
      rw [if_pos z1] at hit1
      refine Sm.out ?_
      repeat (first | refine qS ?_ | refine qB ?_ | refine qT rfl ?_ | refine qF rfl ?_ | ((first | refine qR rfl ?_ | refine qK ?_ | refine qE ?_ | refine qW ?_ | refine qM ?_); try simp -dsimp (maxSteps := 2000000) (disch := first | omega | (simp only [qZ] <;> omega) | fail) only [push_cast, ↓qP, ↓reduceIte, seval]) | (refine qA ?_ ?_; (first | omega | (simp only [qL]; omega) | (simp only [qD] at *; omega))))
      exact Pan.mk (h.pn (t := Re.zero) (by rw [hbr.out, hit1]) z1 j1 j2 (by rw [← hr]; exact k5))
    rw [if_neg (by rw [z1]; simp)] at hit1
    have q6 := q5 z1
    have q8 := (q7 z1).2.2
    rw [hr] at g5 k5
    rw [← q3] at h5
    have h6 := h.item (s' := (item3 l s' set).2.2) h5 g5 q4 k5
    clear h h5 g5 k5 q1 q2 q5 q7 hb he
    generalize item3 l s' set = r1 at *
    obtain ⟨⟨lo, single⟩, set1, s1⟩ := r1
    simp only at hit1 h6 q3 q4 z1 q6 q8 ⊢
    have hlo := lo.toNat_lt
    have hb := h6.rd.blk.rdc
    have hll : (l.drop s1.i).length = l.length - s1.i := by simp
    have e45 : (((byteAt l s1.i).toNat : Int) == 45) = (byteAt l s1.i == 45) := u8e _ 45
    have e93 : (((byteAt l (s1.i + 1)).toNat : Int) != 93) = !(byteAt l (s1.i + 1) == 93) := congrArg (! ·) (u8e (byteAt l (s1.i + 1)) 93)
    have hgg := getD_drop l s1.i 0
    have hgg1 := getD_drop l s1.i 1
    refine Sm.out ?_
    repeat (first | ((fail_if_success (first | refine qY (n := 10) ?_ | refine qV (n := 10) ?_)); refine qS ?_) | refine qB ?_ | refine qT rfl ?_ | refine qF rfl ?_ | ((first | refine qR rfl ?_ | refine qK ?_ | refine qE ?_ | refine qW ?_ | refine qM ?_); try simp -dsimp (maxSteps := 2000000) (disch := first | omega | (simp only [qZ] <;> omega) | fail) only [push_cast, ↓qP, ↓reduceIte, seval, f0, f2, f3, f4]) | (refine qA ?_ ?_; (first | omega | (simp only [qL]; omega) | (simp only [qD] at *; omega))))
    refine Wp.cutQ (fun F W => F 0 = .pointer (some ⟨a, 0, none⟩) ∧ F 2 = .pointer (some ⟨r, 0, none⟩) ∧ F 3 = .pointer (some ⟨r + 1, 0, none⟩) ∧ F 4 = .bool (!nt) ∧ F 6 = .int .u8 (lo.toNat : Int) ∧ F 7 = .bool single ∧
      ∃ (hi' : UInt8) (s2 : S3), F 8 = .int .u8 (hi'.toNat : Int) ∧ S5 w a l s2 set1 W ∧ s2.f = 0 ∧ s2.i ≤ l.length ∧ s'.i < s2.i ∧ R = items3 l k false (if single then putR set1 lo.toNat hi'.toNat else set1) s2) ?_ ?_
    · have nodash : (decide ((s1.i : Int) + 1 < (l.length : Int)) && byteAt l s1.i == 45 && !(byteAt l (s1.i + 1) == 93)) = false → R = items3 l k false (if single then putR set1 lo.toNat lo.toNat else set1) s1 := by
        intro hd
        rw [if_neg (by rw [hd]; simp)] at hit1
        rw [hit1]
        cases single with
        | true => rw [if_pos rfl, if_pos rfl, putR_one (by rw [h6.len]; omega)]
        | false => rfl
      rcases Nat.lt_or_ge (s1.i + 1) l.length with hd1 | hd1
      case inr =>
        have g1 : decide ((l.length : Int) - (s1.i : Int) > 1) = false := decide_eq_false (by omega)
        have hnd := nodash (by rw [decide_eq_false (by omega : ¬ (s1.i : Int) + 1 < (l.length : Int))]; rfl)
        repeat (first | refine qS ?_ | refine qB ?_ | refine qT rfl ?_ | refine qF rfl ?_ | ((first | refine qR rfl ?_ | refine qK ?_ | refine qE ?_ | refine qW ?_ | refine qM ?_); try simp -dsimp (maxSteps := 2000000) (disch := first | omega | (simp only [qZ] <;> omega) | fail) only [push_cast, ↓qP, ↓reduceIte, seval, f0, hb, hll, g1]) | (refine qA ?_ ?_; (first | omega | (simp only [qL]; omega) | (simp only [qD] at *; omega))))
        exact Mid.mk ⟨by simp [upd, f0], by simp [upd, f2], by simp [upd, f3], by simp [upd, f4], by simp [upd], by simp [upd], lo, s1, by simp [upd], h6, z1, q8, q6, hnd⟩
      have g1 : decide ((l.length : Int) - (s1.i : Int) > 1) = true := decide_eq_true (by omega)
      have g1' : decide ((s1.i : Int) + 1 < (l.length : Int)) = true := decide_eq_true (by omega)
      have hl1 : 1 < (l.drop s1.i).length := by omega
      cases c45 : byteAt l s1.i == 45 with
      | false =>
        have hnd := nodash (by rw [c45]; simp)
        rw [c45] at e45
        repeat (first | refine qS ?_ | refine qB ?_ | refine qT rfl ?_ | refine qF rfl ?_ | ((first | refine qR rfl ?_ | refine qK ?_ | refine qE ?_ | refine qW ?_ | refine qM ?_); try simp -dsimp (maxSteps := 2000000) (disch := first | omega | (simp only [qZ] <;> omega) | fail) only [push_cast, ↓qP, ↓reduceIte, seval, f0, hb, hll, g1, hgg, e45]) | (refine qA ?_ ?_; (first | omega | (simp only [qL]; omega) | (simp only [qD] at *; omega))))
        exact Mid.mk ⟨by simp [upd, f0], by simp [upd, f2], by simp [upd, f3], by simp [upd, f4], by simp [upd], by simp [upd], lo, s1, by simp [upd], h6, z1, q8, q6, hnd⟩
      | true =>
      rw [c45] at e45
      cases c93 : byteAt l (s1.i + 1) == 93 with
      | true =>
        have hnd := nodash (by rw [c93]; simp)
        rw [c93] at e93
        repeat (first | refine qS ?_ | refine qB ?_ | refine qT rfl ?_ | refine qF rfl ?_ | ((first | refine qR rfl ?_ | refine qK ?_ | refine qE ?_ | refine qW ?_ | refine qM ?_); try simp -dsimp (maxSteps := 2000000) (disch := first | omega | (simp only [qZ] <;> omega) | fail) only [push_cast, ↓qP, ↓reduceIte, seval, f0, hb, hll, g1, hgg, e45, hgg1, e93]) | (refine qA ?_ ?_; (first | omega | (simp only [qL]; omega) | (simp only [qD] at *; omega))))
        exact Mid.mk ⟨by simp [upd, f0], by simp [upd, f2], by simp [upd, f3], by simp [upd, f4], by simp [upd], by simp [upd], lo, s1, by simp [upd], h6, z1, q8, q6, hnd⟩
      | false =>
      clear nodash
      rw [c93] at e93
      rw [if_pos (by rw [g1', c45, c93]; rfl)] at hit1
      have hz := h6.rd.blk.fz
      have hlt6 := h6.rd.lt
      have hli : ((l.length : Int) - (s1.i : Int)).toNat = l.length - s1.i := by omega
      have hdd : (l.drop s1.i).drop 1 = l.drop (s1.i + 1) := by rw [List.drop_drop]
      have htt : ((l.drop (s1.i + 1)).take (l.length - s1.i - 1)) = l.drop (s1.i + 1) := List.take_of_length_le (by simp; omega)
      refine Sm.out ?_
      repeat (first | ((fail_if_success (first | refine qY (n := 12) ?_ | refine qV (n := 12) ?_)); refine qS ?_) | refine qB ?_ | refine qT rfl ?_ | refine qF rfl ?_ | ((first | refine qR rfl ?_ | refine qK ?_ | refine qE ?_ | refine qW ?_ | refine qM ?_); try simp -dsimp (maxSteps := 2000000) (disch := first | omega | (simp only [qZ] <;> omega) | fail) only [push_cast, ↓qP, ↓reduceIte, seval, f0, hb, hz, hll, g1, hgg, e45, hgg1, e93, hli, hdd, htt]) | (refine qA ?_ ?_; (first | omega | (simp only [qL]; omega) | (simp only [qD] at *; omega))))
      have h7 : S5 w a l s1.on set1 (w5.setCell ⟨a, 0, none⟩ (.string (B (l.drop (s1.i + 1))))) := h6.keep (s' := s1.on) (h6.rd.blk.set 0 _) ((Kp.refl (· = a) w5).setCell (fun _ => rfl) _)
      refine Wp.gen (A := S5 w a l s1.on set1) h7 ?_
      clear h6 h7 hb hz hlt6
      intro W7 h7
      cases single with
      | false =>
        rw [if_pos (by rfl)] at hit1
        repeat (first | refine qS ?_ | refine qB ?_ | refine qT rfl ?_ | refine qF rfl ?_ | ((first | refine qR rfl ?_ | refine qK ?_ | refine qE ?_ | refine qW ?_ | refine qM ?_); try simp -dsimp (maxSteps := 2000000) (disch := first | omega | (simp only [qZ] <;> omega) | fail) only [push_cast, ↓qP, ↓reduceIte, seval]) | (refine qA ?_ ?_; (first | omega | (simp only [qL]; omega) | (simp only [qD] at *; omega))))
        exact Pan.mk (h7.pn (t := Re.zero) (by rw [hbr.out, hit1]) (fail_f _ (by decide)) (by decide) (by decide) (Kp.refl _ _))
      | true =>
      rw [if_neg (by simp)] at hit1
      repeat (first | refine qS ?_ | refine qB ?_ | refine qT rfl ?_ | refine qF rfl ?_ | ((first | refine qR rfl ?_ | refine qK ?_ | refine qE ?_ | refine qW ?_ | refine qM ?_); try simp -dsimp (maxSteps := 2000000) (disch := first | omega | (simp only [qZ] <;> omega) | fail) only [push_cast, ↓qP, ↓reduceIte, seval, f0]) | (refine qA ?_ ?_; (first | omega | (simp only [qL]; omega) | (simp only [qD] at *; omega))))
      refine OpV.of_run (zeros149 _ _ _ rfl) ?_
      refine Sm.out ?_
      repeat (first | refine qS ?_ | refine qB ?_ | refine qT rfl ?_ | refine qF rfl ?_ | ((first | refine qR rfl ?_ | refine qK ?_ | refine qE ?_ | refine qW ?_ | refine qM ?_); try simp -dsimp (maxSteps := 2000000) (disch := first | omega | (simp only [qZ] <;> omega) | fail) only [push_cast, ↓qP, ↓reduceIte, seval, f0]) | (refine qA ?_ ?_; (first | omega | (simp only [qL]; omega) | (simp only [qD] at *; omega))))
      obtain ⟨g2, hg2⟩ : ∃ g2, g2 = W7.heap.size := ⟨_, rfl⟩
      have hnb : Blk (W7.alloc (.cells (List.replicate 256 (Value.bool false)).toArray 149)) g2 149 (bools noSet) := by
        have := Blk.new W7 149 (List.replicate 256 (Value.bool false))
        rw [bools_noSet, hg2]
        simpa using this
      have hsz7 : w.heap.size + 1 < g2 := by have := h7.g.lt; omega
      rw [← hg2]
      refine CallV.of isCall_111 (item_any (set := noSet) (h7.rd.alloc _) hnb rfl ha (by omega) ((hM.kp h7.kp (fun e => ha e.symm)).kp ((Kp.refl (fun _ => False) _).alloc _) id) z1 rfl hd1 hl) ?_
      obtain ⟨p1, p2, p3, p4⟩ := item3_facts l s1.on noSet hd1
      have p5 := item3_more l s1.on noSet hd1 z1
      have p7 := item3_ok l s1.on noSet hd1
      have kcv : ∀ {W8 : World}, Kp (fun b => b = a ∨ b = g2) (W7.alloc (.cells (List.replicate 256 (Value.bool false)).toArray 149)) W8 → Kp (· = a) W7 W8 := fun k => ((Kp.refl (· = a) W7).alloc _).trans' k (fun i hi e => by omega)
      rintro e w8 (⟨y1, rfl, h8, g8, k8⟩ | ⟨y1, j, rfl, j1, j2, k8⟩)
      case inr =>
        rw [if_pos y1] at hit1
        refine Sm.out ?_
        repeat (first | refine qS ?_ | refine qB ?_ | refine qT rfl ?_ | refine qF rfl ?_ | ((first | refine qR rfl ?_ | refine qK ?_ | refine qE ?_ | refine qW ?_ | refine qM ?_); try simp -dsimp (maxSteps := 2000000) (disch := first | omega | (simp only [qZ] <;> omega) | fail) only [push_cast, ↓qP, ↓reduceIte, seval]) | (refine qA ?_ ?_; (first | omega | (simp only [qL]; omega) | (simp only [qD] at *; omega))))
        exact Pan.mk (h7.pn (t := Re.zero) (by rw [hbr.out, hit1]) y1 j1 j2 ((kcv k8).mono fun _ _ h => .inl h))
      rw [if_neg (by rw [y1]; simp)] at hit1
      have p6 := p5 y1
      have p8 := (p7 y1).2.2
      have h8' : Rd w8 a l (item3 l s1.on noSet).2.2.i (item3 l s1.on noSet).2.2.d := by rw [p3]; exact h8
      have h9 := h7.keep h8' (kcv k8)
      clear h7 h8 h8' g8 k8 kcv p1 p2 p3 p4 p5 p7 hnb
      have hson : s1.on.i = s1.i + 1 := rfl
      rw [hson] at p6
      generalize item3 l s1.on noSet = r2 at *
      obtain ⟨⟨hi2, one⟩, set2, s3⟩ := r2
      simp only at hit1 h9 y1 p6 p8 ⊢
      cases one with
      | false =>
        rw [if_pos (by simp)] at hit1
        refine Sm.out ?_
        repeat (first | refine qS ?_ | refine qB ?_ | refine qT rfl ?_ | refine qF rfl ?_ | ((first | refine qR rfl ?_ | refine qK ?_ | refine qE ?_ | refine qW ?_ | refine qM ?_); try simp -dsimp (maxSteps := 2000000) (disch := first | omega | (simp only [qZ] <;> omega) | fail) only [push_cast, ↓qP, ↓reduceIte, seval]) | (refine qA ?_ ?_; (first | omega | (simp only [qL]; omega) | (simp only [qD] at *; omega))))
        exact Pan.mk (h9.pn (t := Re.zero) (by rw [hbr.out, hit1]) (fail_f _ (by decide)) (by decide) (by decide) (Kp.refl _ _))
      | true =>
      rcases Nat.lt_or_ge hi2.toNat lo.toNat with hq | hq
      · have c1 : decide ((hi2.toNat : Int) < (lo.toNat : Int)) = true := decide_eq_true (by omega)
        rw [if_pos (by rw [decide_eq_true (by omega : (lo.toNat : Int) > (hi2.toNat : Int))]; rfl)] at hit1
        refine Sm.out ?_
        repeat (first | refine qS ?_ | refine qB ?_ | refine qT rfl ?_ | refine qF rfl ?_ | ((first | refine qR rfl ?_ | refine qK ?_ | refine qE ?_ | refine qW ?_ | refine qM ?_); try simp -dsimp (maxSteps := 2000000) (disch := first | omega | (simp only [qZ] <;> omega) | fail) only [push_cast, ↓qP, ↓reduceIte, seval, c1]) | (refine qA ?_ ?_; (first | omega | (simp only [qL]; omega) | (simp only [qD] at *; omega))))
        exact Pan.mk (h9.pn (t := Re.zero) (by rw [hbr.out, hit1]) (fail_f _ (by decide)) (by decide) (by decide) (Kp.refl _ _))
      · have c1 : decide ((hi2.toNat : Int) < (lo.toNat : Int)) = false := decide_eq_false (by omega)
        rw [if_neg (by rw [decide_eq_false (by omega : ¬ (lo.toNat : Int) > (hi2.toNat : Int))]; simp)] at hit1
        refine Sm.out ?_
        repeat (first | refine qS ?_ | refine qB ?_ | refine qT rfl ?_ | refine qF rfl ?_ | ((first | refine qR rfl ?_ | refine qK ?_ | refine qE ?_ | refine qW ?_ | refine qM ?_); try simp -dsimp (maxSteps := 2000000) (disch := first | omega | (simp only [qZ] <;> omega) | fail) only [push_cast, ↓qP, ↓reduceIte, seval, c1]) | (refine qA ?_ ?_; (first | omega | (simp only [qL]; omega) | (simp only [qD] at *; omega))))
        exact Mid.mk ⟨by simp [upd, f0], by simp [upd, f2], by simp [upd, f3], by simp [upd, f4], by simp [upd], by simp [upd], hi2, s3, by simp [upd], h9, y1, p8, by omega, hit1⟩
    clear f0 f2 f3 f4 h6 hb hll e45 e93 hgg hgg1 hit1
    intro F W hMd
    obtain ⟨f0, f2, f3, f4, f6, f7, hi2, s3, f8, h6, y1, y2, y3, hit1⟩ := hMd.out
    clear hMd
    cases single with
    | false =>
      repeat (first | refine qS ?_ | refine qB ?_ | refine qT rfl ?_ | refine qF rfl ?_ | ((first | refine qR rfl ?_ | refine qK ?_ | refine qE ?_ | refine qW ?_ | refine qM ?_); try simp -dsimp (maxSteps := 2000000) (disch := first | omega | (simp only [qZ] <;> omega) | fail) only [push_cast, ↓qP, ↓reduceIte, seval, f7]) | (refine qA ?_ ?_; (first | omega | (simp only [qL]; omega) | (simp only [qD] at *; omega))))
      exact Again.mk k ⟨by simp [upd, f0], by simp [upd, f2], by simp [upd, f3], by simp [upd, f4], false, set1, s3, by simp [upd], h6, y1, y2, by omega, ⟨hit1.symm⟩⟩ (by omega)
    | true =>
      repeat (first | refine qS ?_ | refine qB ?_ | refine qT rfl ?_ | refine qF rfl ?_ | ((first | refine qR rfl ?_ | refine qK ?_ | refine qE ?_ | refine qW ?_ | refine qM ?_); try simp -dsimp (maxSteps := 2000000) (disch := first | omega | (simp only [qZ] <;> omega) | fail) only [push_cast, ↓qP, ↓reduceIte, seval, f7, f3, f6, f8]) | (refine qA ?_ ?_; (first | omega | (simp only [qL]; omega) | (simp only [qD] at *; omega))))
      refine CallV.of isCall_112 (put5_any (by rw [hr]; exact h6.g) h6.len lo hi2) ?_
      rintro _ w9 ⟨rfl, g9, k9⟩
      rw [hr] at g9 k9
      have h7 := h6.item (s' := s3) (h6.rd.keep k9 (fun e => by have := h6.lt; omega)) g9 (by rw [putR_len]) (k9.mono fun _ _ h => .inr h)
      refine Sm.out ?_
      repeat (first | refine qS ?_ | refine qB ?_ | refine qT rfl ?_ | refine qF rfl ?_ | ((first | refine qR rfl ?_ | refine qK ?_ | refine qE ?_ | refine qW ?_ | refine qM ?_); try simp -dsimp (maxSteps := 2000000) (disch := first | omega | (simp only [qZ] <;> omega) | fail) only [push_cast, ↓qP, ↓reduceIte, seval]) | (refine qA ?_ ?_; (first | omega | (simp only [qL]; omega) | (simp only [qD] at *; omega))))
      exact Again.mk k ⟨by simp [upd, f0], by simp [upd, f2], by simp [upd, f3], by simp [upd, f4], false, _, s3, by simp [upd], h7, y1, y2, by omega, ⟨hit1.symm⟩⟩ (by omega)
  intro F W hMd
  obtain ⟨f2, f3, f4, set, s3, rfl, hf3, h⟩ := hMd.out
  clear hMd h1 hR
  have hrr := h.r.rdc
  have hrz := h.r.fz
  rw [← hr] at hrr hrz
  repeat (first | refine qS ?_ | refine qB ?_ | refine qT rfl ?_ | refine qF rfl ?_ | ((first | refine qR rfl ?_ | refine qK ?_ | refine qE ?_ | refine qW ?_ | refine qM ?_); try simp -dsimp (maxSteps := 2000000) (disch := first | omega | (simp only [qZ] <;> omega) | fail) only [push_cast, ↓qP, ↓reduceIte, seval, f3, f4]) | (refine qA ?_ ?_; (first | omega | (simp only [qL]; omega) | (simp only [qD] at *; omega))))
  refine CallV.of isCall_105 (text_any (by rw [hr]; exact h.g) h.len (!nt)) ?_
  rintro _ w9 ⟨rfl, k9⟩
  rw [Bool.not_not]
  have h9 := h.keep (s' := s3) (h.rd.keep k9 id) (k9.mono fun _ _ h => h.elim)
  have hrr := h9.r.rdc
  have hrz := h9.r.fz
  have hlt9 := h9.r.lt
  rw [← hr] at hrr hrz hlt9
  refine Sm.out ?_
  repeat (first | refine qS ?_ | refine qB ?_ | refine qT rfl ?_ | refine qF rfl ?_ | ((first | refine qR rfl ?_ | refine qK ?_ | refine qE ?_ | refine qW ?_ | refine qM ?_); try simp -dsimp (maxSteps := 2000000) (disch := first | omega | (simp only [qZ] <;> omega) | fail) only [push_cast, ↓qP, ↓reduceIte, seval, f2, hrr, hrz]) | (refine qA ?_ ?_; (first | omega | (simp only [qL]; omega) | (simp only [qD] at *; omega))))
  rw [hr]
  exact h9.out (x := bytesOf set nt) hbr hf3 (by simp [upd, f2, hr])
end
end Go.Proofs.Ytddichibegppjaa

/- The program's reader: joined. -/
namespace Go.Proofs.Ytddichibegppjaa
open Go Go.VC Go.RowKit

def joinT (op : List UInt8) : List Re → Re
  | [e] => e
  | es => .node op [] es 0 0
section
variable {w : World} {D D' : Nat → Prop} {es : List Re} {xs : List Value} {A : Option Addr} {n cap : Nat}
theorem joined_any (op : List UInt8) (ho : Own w 33 5 A n cap xs) (he : IsEl w D es xs) (hn : n = es.length) (hD : ∀ b, D b → b < w.heap.size) (hA : ∀ b, bk A = some b → b < w.heap.size) : Calls Try.prog 90 #[.string (B op), .slice A n cap] w fun e w' =>
    ∃ cs, e = .returned (.agg cs.toArray) ∧ IsRe w' (fun b => D b ∨ bk A = some b) (joinT op es) cs ∧ Kp (fun _ => False) w w' := by
  refine enter (n := 14) (args := [.string (B op), .slice A n cap]) Try.func90 rfl rfl rfl (by simp) ?_
  obtain ⟨q, hq⟩ : ∃ q, q = w.heap.size := ⟨_, rfl⟩
  have hb0 := Blk.new w 33 zRe
  have k0 : Kp (fun _ => False) w (w.alloc (.cells zRe.toArray 33)) := (Kp.refl _ w).alloc _
  refine Sm.out ?_
  repeat (first | ((fail_if_success (first | refine qY (n := 1) ?_ | refine qV (n := 1) ?_)); refine qS ?_) | refine qB ?_ | refine qT rfl ?_ | refine qF rfl ?_ | ((first | refine qR rfl ?_ | refine qK ?_ | refine qE ?_ | refine qW ?_ | refine qM ?_); try simp -dsimp (maxSteps := 2000000) (disch := first | omega | (simp only [qZ] <;> omega) | fail) only [push_cast, ↓qP, ↓reduceIte, seval]) | (refine qA ?_ ?_; (first | omega | (simp only [qL]; omega) | (simp only [qD] at *; omega))))
  refine Wp.gen (w := w.alloc (.cells zRe.toArray 33)) (A := fun W => Kp (fun _ => False) w W ∧ Blk W q 33 zRe) ⟨k0, by rw [hq]; exact hb0⟩ ?_
  rw [← hq]
  clear hb0 k0
  rintro W ⟨k, hb⟩
  have ho2 := ho.Kp k (fun _ _ => id)
  have he2 := he.Kp (D' := D) k (fun _ _ => id) (fun _ h => h)
  have hrr := hb.rdc
  have hrz := hb.fz
  have hlt := hb.lt
  have fin : ∀ (F : Fr) (t : Re) (cs : List Value), F 4 = .pointer (some ⟨q, 0, none⟩) → IsRe W (fun b => D b ∨ bk A = some b) t cs →
      post Try.prog [.cell 4 33] (fun e w' => ∃ cs, e = .returned (.agg cs.toArray) ∧ IsRe w' (fun b => D b ∨ bk A = some b) t cs ∧ Kp (fun _ => False) w w') .mk .ret F (W.setCells q 0 cs) := by
    intro F t cs hF ht
    have h2 := (hb.setAll (vs := cs) ht.len).rdn
    rw [ht.len] at h2
    have hk : Kp (· = q) W (W.setCells q 0 cs) := (Kp.refl (· = q) W).setCells (fun _ => rfl) cs 0
    have hne : ∀ b, (D b ∨ bk A = some b) → b ≠ q := by
      rintro b (h | h)
      · have := hD b h; omega
      · have := hA b h; omega
    exact post_cell hF tk_33 h2 ⟨cs, rfl, ht.Kp hk hne (fun _ h => h), k.trans' hk (fun i hi e => by omega)⟩
  by_cases hone : n = 1
  · obtain ⟨e, rfl⟩ : ∃ e, es = [e] := by
      match es, hn with
      | [e], _ => exact ⟨e, rfl⟩
      | [], hn => simp at hn; omega
      | _ :: _ :: _, hn => simp at hn; omega
    obtain ⟨cs, ys, rfl, hre, hys⟩ := he2
    simp only [IsEl] at hys
    subst hys
    obtain ⟨o, se, A1, c1, c2, lo1, hi1', rfl⟩ := hre.form
    obtain ⟨g, rfl, hg, _⟩ := ho2.some (by omega)
    have hrd : ∀ j, j < 5 → rdc W g j = [.string (B o), .string (B se), .slice A1 c1 c2, .int .i64 lo1, .int .i64 hi1'][j]? := fun j hj => by
      rw [ho2.rdc j (by omega), List.append_nil]
    have c1' : ((n : Int) == 1) = true := by simp; omega
    clear ho ho2 he hn
    repeat (first | refine qS ?_ | refine qB ?_ | refine qT rfl ?_ | refine qF rfl ?_ | ((first | refine qR rfl ?_ | refine qK ?_ | refine qE ?_ | refine qW ?_ | refine qM ?_); try simp -dsimp (maxSteps := 2000000) (disch := first | omega | (simp only [qZ] <;> omega) | fail) only [push_cast, ↓qP, ↓reduceIte, seval, c1', hrd, hrr, hrz]) | (refine qA ?_ ?_; (first | omega | (simp only [qL]; omega) | (simp only [qD] at *; omega))))
    exact fin _ e [.string (B o), .string (B se), .slice A1 c1 c2, .int .i64 lo1, .int .i64 hi1'] (by simp [upd]) (IsRe.keep (fun b hb => .inl hb) (fun b _ i n vs hr => hr) _ _ hre)
  · have c1' : ((n : Int) == 1) = false := by simp; omega
    have hm : joinT op es = .node op [] es 0 0 := by
      match es, hn with
      | [e], hn => simp at hn; omega
      | [], _ => rfl
      | _ :: _ :: _, _ => rfl
    rw [hm]
    repeat (first | refine qS ?_ | refine qB ?_ | refine qT rfl ?_ | refine qF rfl ?_ | ((first | refine qR rfl ?_ | refine qK ?_ | refine qE ?_ | refine qW ?_ | refine qM ?_); try simp -dsimp (maxSteps := 2000000) (disch := first | omega | (simp only [qZ] <;> omega) | fail) only [push_cast, ↓qP, ↓reduceIte, seval, c1', hrr, hrz]) | (refine qA ?_ ?_; (first | omega | (simp only [qL]; omega) | (simp only [qD] at *; omega))))
    exact fin _ _ [.string (B op), .string (B []), .slice A n cap, .int .i64 0, .int .i64 0] (by simp [upd]) (own_kids ho2 he2 (fun b hb => .inl hb) (fun b hb => .inr hb) _ _ _ _)
end
end Go.Proofs.Ytddichibegppjaa

/- The program's reader: pieces. -/
namespace Go.Proofs.Ytddichibegppjaa
open Go Go.VC Go.RowKit

def EA (l : List UInt8) (a k : Nat) : Prop := ∀ s w, Rd w a l s.i s.d → St3 l s → s.f = 0 → s.i < l.length → MaxL w → (∃ r, atom3 l k s = some r) → Calls Try.prog 98 #[.pointer (some ⟨a, 0, none⟩)] w (OutG w a l (atom3 l k s))
def EP (l : List UInt8) (a k : Nat) : Prop := ∀ s w, Rd w a l s.i s.d → St3 l s → s.f = 0 → MaxL w → (∃ r, pieces3 l k s = some r) → Calls Try.prog 88 #[.pointer (some ⟨a, 0, none⟩)] w (OutG w a l (pieces3 l k s))
def EB (l : List UInt8) (a k : Nat) : Prop := ∀ s w, Rd w a l s.i s.d → St3 l s → s.f = 0 → MaxL w → (∃ r, branches3 l k s = some r) → Calls Try.prog 81 #[.pointer (some ⟨a, 0, none⟩)] w (OutG w a l (branches3 l k s))
abbrev rsO (l : List UInt8) (s : S3) : List Value := [.string (B (l.drop s.i)), .int .i64 s.d]

theorem more_off {l : List UInt8} {s : S3} (h : s.f ≠ 0) : more3 l s = false := by unfold more3; simp [h]
theorem more_eq {l : List UInt8} {s : S3} (h : s.f = 0) : more3 l s = decide (s.i < l.length) := by
  unfold more3; rw [h]; exact decide_eq_decide.2 (by omega)
theorem piece_off {l : List UInt8} {k : Nat} {es : List Re} {s : S3} {R : Option (List Re) × S3} (h : s.f ≠ 0) (hR : piece3 l k es s = some R) : R = (some es, s) := by
  cases k with
  | zero => simp [piece3] at hR
  | succ k => simp only [piece3, more_off h] at hR; simpa using hR.symm
theorem pieces_of {l : List UInt8} {k : Nat} {s : S3} {r : Option (List Re)} {s1 : S3} (hR : piece3 l k [] s = some (r, s1)) : ∃ t, pieces3 l (k + 1) s = some (t, s1) := by
  simp only [pieces3, hR]
  match r with
  | none => exact ⟨_, rfl⟩
  | some [] => exact ⟨_, rfl⟩
  | some [e] => exact ⟨_, rfl⟩
  | some (_ :: _ :: _) => exact ⟨_, rfl⟩
theorem pieces_join {l : List UInt8} {k : Nat} {s : S3} {es : List Re} {s1 : S3} (hR : piece3 l k [] s = some (some es, s1)) : pieces3 l (k + 1) s = some (joinT opCat es, s1) := by
  simp only [pieces3, hR]
  match es with
  | [] => rfl
  | [e] => rfl
  | _ :: _ :: _ => rfl
theorem reps_off {l : List UInt8} {k : Nat} {e : Re} {s : S3} {r : Re × S3} (hs : s.f = 0) (h : (repeat3 l s).2.f ≠ 0) (hr : reps3 l k e s = some r) : r.2.f ≠ 0 := by
  cases k with
  | zero => simp [reps3] at hr
  | succ k =>
    simp only [reps3] at hr
    rw [if_neg (by rw [hs]; simp)] at hr
    split at hr
    · injection hr with hr; rw [← hr]; exact h
    · cases k with
      | zero => simp [reps3] at hr
      | succ k =>
        simp only [reps3] at hr
        rw [if_pos h] at hr
        injection hr with hr; rw [← hr]; exact h

section
variable {a : Nat} {l : List UInt8} {s s' : S3} {w w1 w2 : World}
theorem post_oe {r : Option (Re × S3)} {t : Re} {cs : List Value} {F : Fr} {D : Nat → Prop} (hat : Rd w1 a l s'.i s'.d) (hb : Blk w1 w.heap.size 33 zRe) (hkp : Kp (· = a) w w1) (hlt : a < w.heap.size)
    (hr : r = some (t, s')) (hf : s'.f = 0) (hF : F 2 = .pointer (some ⟨w.heap.size, 0, none⟩)) (ht : IsRe w1 D t cs) (hD : ∀ b, D b → w.heap.size < b ∧ b < w1.heap.size) :
    post Try.prog [.cell 2 33] (OutG w a l r) .mk .ret F (w1.setCells w.heap.size 0 cs) := by
  have h2 := (hb.setAll (vs := cs) ht.len).rdn
  rw [ht.len] at h2
  have hk : Kp (· = w.heap.size) w1 (w1.setCells w.heap.size 0 cs) := (Kp.refl (· = w.heap.size) w1).setCells (fun _ => rfl) cs 0
  exact post_cell hF tk_33 h2 (.inl ⟨t, s', cs, hr, hf, rfl, ht.Kp hk (fun b hb e => by have := hD b hb; omega) (fun b hb => by have := hD b hb; have := hk.size; omega), Blk.farCells (Nat.ne_of_lt hlt) _ _ _ hat, Kp.setCells hkp (fun h' => absurd h' (Nat.lt_irrefl _)) _ _⟩)

theorem pieces_any (k : Nat) (hl : l.length ≤ 1000000) (ha : a ≠ 1) (ih : ∀ j, j < k → EA l a j) : EP l a k := by
  intro s w h hs hsf hM hex
  obtain ⟨k, rfl⟩ : ∃ k', k = k' + 1 := by
    cases k with
    | zero => obtain ⟨r, hr⟩ := hex; simp [pieces3] at hr
    | succ k => exact ⟨k, rfl⟩
  obtain ⟨R, hR⟩ : ∃ R, piece3 l k [] s = some R := by
    cases hp : piece3 l k [] s with
    | none => obtain ⟨r, hr⟩ := hex; simp [pieces3, hp] at hr
    | some R => exact ⟨R, rfl⟩
  clear hex
  have hbad : ∀ r s1, R = (r, s1) → ∃ t, pieces3 l (k + 1) s = some (t, s1) := fun r s1 e => pieces_of (by rw [hR, e])
  have hgood : ∀ es s1, R = (some es, s1) → pieces3 l (k + 1) s = some (joinT opCat es, s1) := fun es s1 e => pieces_join (by rw [hR, e])
  generalize pieces3 l (k + 1) s = T at *
  have hlt := h.lt
  refine enter (n := 66) (args := [.pointer (some ⟨a, 0, none⟩)]) Try.func88 rfl rfl rfl (by simp) ?_
  refine Sm.out ?_
  repeat (first | ((fail_if_success (first | refine qY (n := 2) ?_ | refine qV (n := 2) ?_)); refine qS ?_) | refine qB ?_ | refine qT rfl ?_ | refine qF rfl ?_ | ((first | refine qR rfl ?_ | refine qK ?_ | refine qE ?_ | refine qW ?_ | refine qM ?_); try simp -dsimp (maxSteps := 2000000) (disch := first | omega | (simp only [qZ] <;> omega) | fail) only [push_cast, ↓qP, ↓reduceIte, seval]) | (refine qA ?_ ?_; (first | omega | (simp only [qL]; omega) | (simp only [qD] at *; omega))))
  refine Wp.cutQ (fun F' w' => F' 2 = .pointer (some ⟨w.heap.size, 0, none⟩) ∧ ∃ es s1 A n cap N, F' 3 = .slice A n cap ∧ R = (some es, s1) ∧ s1.f = 0 ∧ Lq w a (rsO l s1) es A n cap N w') ?_ ?_
  · repeat (first | refine qS ?_ | refine qB ?_ | refine qT rfl ?_ | refine qF rfl ?_ | ((first | refine qR rfl ?_ | refine qK ?_ | refine qE ?_ | refine qW ?_ | refine qM ?_); try simp -dsimp (maxSteps := 2000000) (disch := first | omega | (simp only [qZ] <;> omega) | fail) only [push_cast, ↓qP, ↓reduceIte, seval]) | (refine qA ?_ ?_; (first | omega | (simp only [qL]; omega) | (simp only [qD] at *; omega))))
    refine CallV.of isCall_96 (peek_any (h.alloc _)) ?_
    rintro _ _ ⟨rfl, rfl⟩
    refine Sm.out ?_
    repeat (first | refine qS ?_ | refine qB ?_ | refine qT rfl ?_ | refine qF rfl ?_ | ((first | refine qR rfl ?_ | refine qK ?_ | refine qE ?_ | refine qW ?_ | refine qM ?_); try simp -dsimp (maxSteps := 2000000) (disch := first | omega | (simp only [qZ] <;> omega) | fail) only [push_cast, ↓qP, ↓reduceIte, seval]) | (refine qA ?_ ?_; (first | omega | (simp only [qL]; omega) | (simp only [qD] at *; omega))))
    refine Wp.loop (α := Nat) (fun j F w2 => j ≤ k ∧ F 0 = .pointer (some ⟨a, 0, none⟩) ∧ F 2 = .pointer (some ⟨w.heap.size, 0, none⟩) ∧ ∃ es s1 A n cap N, F 3 = .slice A n cap ∧ F 4 = .int .u8 (if s1.i < l.length then ((byteAt l s1.i).toNat : Int) else 0) ∧ F 5 = .bool (decide (s1.i < l.length)) ∧
        Lq w a (rsO l s1) es A n cap N w2 ∧ St3 l s1 ∧ s1.f = 0 ∧ es.length ≤ s1.i ∧ Hide (piece3 l j es s1 = some R)) (fun j => j) k
      ⟨Nat.le_refl _, by simp [upd, arg], by simp [upd], [], s, none, 0, 0, w.heap.size + 1, by simp [upd], by simp [upd], by simp [upd], ⟨h.alloc _, Blk.new _ _ _, ⟨[], Own.nil _ _ _, rfl⟩, rfl, by simp [bk], (Kp.refl _ w).alloc _, hlt, by omega, by simp⟩, hs, hsf, Nat.zero_le _, ⟨hR⟩⟩ ?_
    clear h hs hR hsf
    rintro j F w2 ⟨hjk, f0, f2, es, s1, A, n, cap, N, f3, f4, f5, h1, hs, hf0, hei, hpc⟩
    obtain ⟨j, rfl⟩ : ∃ j', j = j' + 1 := by
      cases j with
      | zero => have := hpc.out; simp [piece3] at this
      | succ j => exact ⟨j, rfl⟩
    have hpc1 := hpc.out
    simp only [piece3, more_eq hf0] at hpc1
    clear hpc
    have hsi := hs.2.2.2 hf0
    rcases Nat.lt_or_ge s1.i l.length with hi1 | hi1
    case inr =>
      rw [if_neg (by omega : ¬ s1.i < l.length)] at f4
      rw [decide_eq_false (by omega : ¬ s1.i < l.length)] at f5 hpc1
      rw [if_neg (by simp)] at hpc1
      injection hpc1 with hpc1
      repeat (first | refine qS ?_ | refine qB ?_ | refine qT rfl ?_ | refine qF rfl ?_ | ((first | refine qR rfl ?_ | refine qK ?_ | refine qE ?_ | refine qW ?_ | refine qM ?_); try simp -dsimp (maxSteps := 2000000) (disch := first | omega | (simp only [qZ] <;> omega) | fail) only [push_cast, ↓qP, ↓reduceIte, seval, f5]) | (refine qA ?_ ?_; (first | omega | (simp only [qL]; omega) | (simp only [qD] at *; omega))))
      exact Mid.mk ⟨by simp [upd, f2], es, s1, A, n, cap, N, by simp [upd, f3], hpc1.symm, hf0, h1⟩
    rw [if_pos hi1] at f4
    rw [decide_eq_true hi1] at f5 hpc1
    have e124 : (((byteAt l s1.i).toNat : Int) != 124) = !(byteAt l s1.i == 124) := congrArg (! ·) (u8e _ 124)
    have e41 : (((byteAt l s1.i).toNat : Int) != 41) = !(byteAt l s1.i == 41) := congrArg (! ·) (u8e _ 41)
    cases h124 : byteAt l s1.i == 124 with
    | true =>
      rw [h124] at e124 hpc1
      rw [if_neg (by simp)] at hpc1
      injection hpc1 with hpc1
      repeat (first | refine qS ?_ | refine qB ?_ | refine qT rfl ?_ | refine qF rfl ?_ | ((first | refine qR rfl ?_ | refine qK ?_ | refine qE ?_ | refine qW ?_ | refine qM ?_); try simp -dsimp (maxSteps := 2000000) (disch := first | omega | (simp only [qZ] <;> omega) | fail) only [push_cast, ↓qP, ↓reduceIte, seval, f4, f5, e124]) | (refine qA ?_ ?_; (first | omega | (simp only [qL]; omega) | (simp only [qD] at *; omega))))
      exact Mid.mk ⟨by simp [upd, f2], es, s1, A, n, cap, N, by simp [upd, f3], hpc1.symm, hf0, h1⟩
    | false =>
    rw [h124] at e124 hpc1
    cases h41 : byteAt l s1.i == 41 with
    | true =>
      rw [h41] at e41 hpc1
      rw [if_neg (by simp)] at hpc1
      injection hpc1 with hpc1
      repeat (first | refine qS ?_ | refine qB ?_ | refine qT rfl ?_ | refine qF rfl ?_ | ((first | refine qR rfl ?_ | refine qK ?_ | refine qE ?_ | refine qW ?_ | refine qM ?_); try simp -dsimp (maxSteps := 2000000) (disch := first | omega | (simp only [qZ] <;> omega) | fail) only [push_cast, ↓qP, ↓reduceIte, seval, f4, f5, e124, e41]) | (refine qA ?_ ?_; (first | omega | (simp only [qL]; omega) | (simp only [qD] at *; omega))))
      exact Mid.mk ⟨by simp [upd, f2], es, s1, A, n, cap, N, by simp [upd, f3], hpc1.symm, hf0, h1⟩
    | false =>
    rw [h41] at e41 hpc1
    rw [if_pos (by rfl)] at hpc1
    repeat (first | refine qS ?_ | refine qB ?_ | refine qT rfl ?_ | refine qF rfl ?_ | ((first | refine qR rfl ?_ | refine qK ?_ | refine qE ?_ | refine qW ?_ | refine qM ?_); try simp -dsimp (maxSteps := 2000000) (disch := first | omega | (simp only [qZ] <;> omega) | fail) only [push_cast, ↓qP, ↓reduceIte, seval, f0, f4, f5, e124, e41]) | (refine qA ?_ ?_; (first | omega | (simp only [qL]; omega) | (simp only [qD] at *; omega))))
    refine CallV.of isCall_97 (repeat_any h1.at_ hf0 hsi hl) ?_
    obtain ⟨r1, r2, r3, r4, r5, r6⟩ := repeat3_ok l s1 hsi
    rintro e w4 (⟨q1, rfl, h2, k2⟩ | ⟨q1, x, rfl, x1, x2, k2⟩)
    case inr =>
      have hf2 : (if (repeat3 l s1).1.2.2 = true then (repeat3 l s1).2.fail 3 else (repeat3 l s1).2).f ≠ 0 := by
        split
        · exact fail_f _ (by decide)
        · exact q1
      rw [if_pos hf2] at hpc1
      injection hpc1 with hpc1
      obtain ⟨t, ht⟩ := hbad _ _ hpc1.symm
      refine Sm.out ?_
      repeat (first | refine qS ?_ | refine qB ?_ | refine qT rfl ?_ | refine qF rfl ?_ | ((first | refine qR rfl ?_ | refine qK ?_ | refine qE ?_ | refine qW ?_ | refine qM ?_); try simp -dsimp (maxSteps := 2000000) (disch := first | omega | (simp only [qZ] <;> omega) | fail) only [push_cast, ↓qP, ↓reduceIte, seval]) | (refine qA ?_ ?_; (first | omega | (simp only [qL]; omega) | (simp only [qD] at *; omega))))
      exact Pan.mk (.inr ⟨t, _, ht, hf2, x, rfl, x1, x2, h1.kp.trans k2⟩)
    have h3 : Lq w a (rsO l (repeat3 l s1).2) es A n cap N w4 := h1.keep (rs' := rsO l (repeat3 l s1).2) (by show Rd w4 a l _ _; rw [r1]; exact h2) k2
    clear h1 h2 k2 r1 r2 r3 r4 r5
    generalize repeat3 l s1 = rp at *
    obtain ⟨⟨lo, hi, b⟩, s2⟩ := rp
    simp only at hpc1 h3 r6 q1 ⊢
    replace r6 : Hide _ := ⟨r6⟩
    cases b with
    | true =>
      rw [if_pos rfl, if_pos (fail_f _ (by decide))] at hpc1
      injection hpc1 with hpc1
      obtain ⟨t, ht⟩ := hbad _ _ hpc1.symm
      refine Sm.out ?_
      repeat (first | refine qS ?_ | refine qB ?_ | refine qT rfl ?_ | refine qF rfl ?_ | ((first | refine qR rfl ?_ | refine qK ?_ | refine qE ?_ | refine qW ?_ | refine qM ?_); try simp -dsimp (maxSteps := 2000000) (disch := first | omega | (simp only [qZ] <;> omega) | fail) only [push_cast, ↓qP, ↓reduceIte, seval]) | (refine qA ?_ ?_; (first | omega | (simp only [qL]; omega) | (simp only [qD] at *; omega))))
      exact Pan.mk (.inr ⟨t, _, ht, fail_f _ (by decide), 3, rfl, by decide, by decide, h3.kp⟩)
    | false =>
    simp only [Bool.false_eq_true, if_false] at hpc1
    rw [if_neg (by rw [q1]; simp)] at hpc1
    obtain rfl : s2 = s1 := (r6.out rfl).resolve_right (by rw [q1]; simp)
    clear r6
    obtain ⟨⟨t, s1⟩, hat⟩ : ∃ p, atom3 l j s2 = some p := by
      cases hp : atom3 l j s2 with
      | none => rw [hp] at hpc1; cases hpc1
      | some p => exact ⟨p, rfl⟩
    rw [hat] at hpc1
    simp only [] at hpc1
    obtain ⟨m1, m2⟩ := (reads_ok l j).1 _ _ _ hs hf0 hi1 hat
    have hs1 := m1.st hs
    obtain ⟨⟨e', s3⟩, hR2⟩ : ∃ p, reps3 l (l.length + 2) t s1 = some p := by
      cases hp : reps3 l (l.length + 2) t s1 with
      | none => rw [hp] at hpc1; cases hpc1
      | some p => exact ⟨p, rfl⟩
    rw [hR2] at hpc1
    simp only [] at hpc1
    refine Sm.out ?_
    repeat (first | refine qS ?_ | refine qB ?_ | refine qT rfl ?_ | refine qF rfl ?_ | ((first | refine qR rfl ?_ | refine qK ?_ | refine qE ?_ | refine qW ?_ | refine qM ?_); try simp -dsimp (maxSteps := 2000000) (disch := first | omega | (simp only [qZ] <;> omega) | fail) only [push_cast, ↓qP, ↓reduceIte, seval, f0]) | (refine qA ?_ ?_; (first | omega | (simp only [qL]; omega) | (simp only [qD] at *; omega))))
    refine CallV.of isCall_98 (ih j (by omega) s2 w4 h3.at_ hs hf0 hi1 (hM.kp h3.kp (fun e => ha e.symm)) ⟨_, hat⟩) ?_
    -- a fault within
    have hfault : s3.f ≠ 0 → ∃ t, T = some (t, s3) := fun hf => by
      have := piece_off hf hpc1
      exact hbad _ _ this
    rintro e w5 (⟨t', s1', cs, he, hf1, rfl, hre, h4, k4⟩ | ⟨t', s1', he, hf1, x, rfl, x1, x2, k4⟩)
    case inr =>
      rw [hat] at he
      injection he with he
      injection he with he1 he2
      subst he1; subst he2
      have hf3 : s3.f ≠ 0 := fun e => by
        obtain ⟨_, _, _, j4, _⟩ := reps3_ok l _ _ _ _ _ (fun h => absurd h hf1) hR2
        exact hf1 (j4 e).1
      obtain ⟨t2, ht2⟩ := hfault hf3
      refine Sm.out ?_
      repeat (first | refine qS ?_ | refine qB ?_ | refine qT rfl ?_ | refine qF rfl ?_ | ((first | refine qR rfl ?_ | refine qK ?_ | refine qE ?_ | refine qW ?_ | refine qM ?_); try simp -dsimp (maxSteps := 2000000) (disch := first | omega | (simp only [qZ] <;> omega) | fail) only [push_cast, ↓qP, ↓reduceIte, seval]) | (refine qA ?_ ?_; (first | omega | (simp only [qL]; omega) | (simp only [qD] at *; omega))))
      exact Pan.mk (.inr ⟨t2, _, ht2, hf3, x, rfl, x1, x2, h3.kp.trans k4⟩)
    rw [hat] at he
    injection he with he
    injection he with he1 he2
    subst he1; subst he2
    have h5 := h3.keep (rs' := rsO l s1) h4 k4
    have hN2 := h3.N2
    clear h3 h4 k4 hat
    have hi1' : s1.i ≤ l.length := (m1.2.2 hf1).2.2
    obtain ⟨o, se, A1, c1, c2, lo1, hi1'', rfl⟩ := hre.form
    have hlta := h5.at_.lt
    have hltr := h5.r.lt
    refine Sm.out ?_
    repeat (first | ((fail_if_success (first | refine qY (n := 9) ?_ | refine qV (n := 9) ?_)); refine qS ?_) | refine qB ?_ | refine qT rfl ?_ | refine qF rfl ?_ | ((first | refine qR rfl ?_ | refine qK ?_ | refine qE ?_ | refine qW ?_ | refine qM ?_); try simp -dsimp (maxSteps := 2000000) (disch := first | omega | (simp only [qZ] <;> omega) | fail) only [push_cast, ↓qP, ↓reduceIte, seval, f0, f2, f3]) | (refine qA ?_ ?_; (first | omega | (simp only [qL]; omega) | (simp only [qD] at *; omega))))
    have hqN := h5.N2
    obtain ⟨q, hq⟩ : ∃ q, q = w5.heap.size := ⟨_, rfl⟩
    rw [← hq]
    refine Wp.gen (w := (w5.alloc (.cells zRe.toArray 33)).setCells q 0 [.string (B o), .string (B se), .slice A1 c1 c2, .int .i64 lo1, .int .i64 hi1'']) (A := fun W => Lq w a (rsO l s1) es A n cap N W ∧ Blk W q 33 [.string (B o), .string (B se), .slice A1 c1 c2, .int .i64 lo1, .int .i64 hi1''] ∧ IsRe W (fun b => N ≤ b ∧ b < W.heap.size ∧ b ≠ q) t [.string (B o), .string (B se), .slice A1 c1 c2, .int .i64 lo1, .int .i64 hi1'']) ?_ ?_
    · have hk : Kp (· = q) w5 ((w5.alloc (.cells zRe.toArray 33)).setCells q 0 [.string (B o), .string (B se), .slice A1 c1 c2, .int .i64 lo1, .int .i64 hi1'']) := ((Kp.refl (· = q) w5).alloc _).setCells (fun _ => rfl) [.string (B o), .string (B se), .slice A1 c1 c2, .int .i64 lo1, .int .i64 hi1''] 0
      exact ⟨(h5.alloc _).setq (by omega) [.string (B o), .string (B se), .slice A1 c1 c2, .int .i64 lo1, .int .i64 hi1''], Blk.setAll (cs := zRe) (vs := [.string (B o), .string (B se), .slice A1 c1 c2, .int .i64 lo1, .int .i64 hi1'']) (by rw [hq]; exact Blk.new w5 33 zRe) rfl, hre.Kp hk (fun b hb e => by have := hb.2; omega) (fun b hb => ⟨by have := hb.1; omega, Nat.lt_of_lt_of_le hb.2 hk.size, by have := hb.2; omega⟩)⟩
    rw [hq]
    clear h5 hre hlta hltr
    rintro w6 ⟨h5, hbq, hre⟩
    generalize w5.heap.size = q at *
    subst hq
    refine Wp.cutQ (fun F W => F 0 = .pointer (some ⟨a, 0, none⟩) ∧ F 2 = .pointer (some ⟨w.heap.size, 0, none⟩) ∧ F 3 = .slice A n cap ∧ F 9 = .pointer (some ⟨q, 0, none⟩) ∧ s3.f = 0 ∧ ∃ cs, Lq w a (rsO l s3) es A n cap N W ∧ Blk W q 33 cs ∧ IsRe W (fun b => N ≤ b ∧ b < W.heap.size ∧ b ≠ q) e' cs) ?_ ?_
    · have hoff := fun h => hfault (reps_off hf1 h hR2)
      repeat (first | refine qS ?_ | refine qB ?_ | refine qT rfl ?_ | refine qF rfl ?_ | ((first | refine qR rfl ?_ | refine qK ?_ | refine qE ?_ | refine qW ?_ | refine qM ?_); try simp -dsimp (maxSteps := 2000000) (disch := first | omega | (simp only [qZ] <;> omega) | fail) only [push_cast, ↓qP, ↓reduceIte, seval, f0, f2, f3]) | (refine qA ?_ ?_; (first | omega | (simp only [qL]; omega) | (simp only [qD] at *; omega))))
      refine CallV.of isCall_97 (repeat_any h5.at_ hf1 hi1' hl) ?_
      obtain ⟨r1, r2, r3, r4, r5, r6⟩ := repeat3_ok l s1 hi1'
      rintro e w7 (⟨q2, rfl, h6, k6⟩ | ⟨q2, x, rfl, x1, x2, k6⟩)
      case inr =>
        obtain ⟨t2, ht2⟩ := hoff q2
        refine Sm.out ?_
        repeat (first | refine qS ?_ | refine qB ?_ | refine qT rfl ?_ | refine qF rfl ?_ | ((first | refine qR rfl ?_ | refine qK ?_ | refine qE ?_ | refine qW ?_ | refine qM ?_); try simp -dsimp (maxSteps := 2000000) (disch := first | omega | (simp only [qZ] <;> omega) | fail) only [push_cast, ↓qP, ↓reduceIte, seval]) | (refine qA ?_ ?_; (first | omega | (simp only [qL]; omega) | (simp only [qD] at *; omega))))
        exact Pan.mk (.inr ⟨t2, _, ht2, reps_off hf1 q2 hR2, x, rfl, x1, x2, h5.kp.trans k6⟩)
      have h7 : Lq w a (rsO l (repeat3 l s1).2) es A n cap N w7 := h5.keep (rs' := rsO l (repeat3 l s1).2) (by show Rd w7 a l _ _; rw [r1]; exact h6) k6
      have hbq2 := k6.Blk hbq (by have := h5.lt; have := h5.N1; omega)
      have hre2 := hre.Kp (D' := fun b => N ≤ b ∧ b < w7.heap.size ∧ b ≠ q) k6 (fun b hb e => by have := hb.1; have := h5.lt; have := h5.N1; omega) (fun b hb => ⟨hb.1, Nat.lt_of_lt_of_le hb.2.1 k6.size, hb.2.2⟩)
      clear h5 h6 k6 hbq hre hoff
      refine Sm.out ?_
      repeat (first | refine qS ?_ | refine qB ?_ | refine qT rfl ?_ | refine qF rfl ?_ | ((first | refine qR rfl ?_ | refine qK ?_ | refine qE ?_ | refine qW ?_ | refine qM ?_); try simp -dsimp (maxSteps := 2000000) (disch := first | omega | (simp only [qZ] <;> omega) | fail) only [push_cast, ↓qP, ↓reduceIte, seval]) | (refine qA ?_ ?_; (first | omega | (simp only [qL]; omega) | (simp only [qD] at *; omega))))
      refine Wp.loop (α := Nat) (fun k F W => F 0 = .pointer (some ⟨a, 0, none⟩) ∧ F 2 = .pointer (some ⟨w.heap.size, 0, none⟩) ∧ F 3 = .slice A n cap ∧ F 9 = .pointer (some ⟨q, 0, none⟩) ∧ ∃ e1 s' cs, F 10 = .int .i64 (repeat3 l s').1.1 ∧ F 11 = .int .i64 (repeat3 l s').1.2.1 ∧ F 12 = .bool (repeat3 l s').1.2.2 ∧
          Lq w a (rsO l (repeat3 l s').2) es A n cap N W ∧ Blk W q 33 cs ∧ IsRe W (fun b => N ≤ b ∧ b < W.heap.size ∧ b ≠ q) e1 cs ∧ s'.f = 0 ∧ (repeat3 l s').2.f = 0 ∧ s'.i ≤ l.length ∧ Hide (reps3 l (k + 1) e1 s' = some (e', s3))) (fun k => k) (l.length + 1)
        ⟨by simp [upd, f0], by simp [upd, f2], by simp [upd, f3], by simp [upd], t, s1, _, by simp [upd], by simp [upd], by simp [upd], h7, hbq2, hre2, hf1, q2, hi1', ⟨hR2⟩⟩ ?_
      clear f0 f2 f3 h7 hbq2 hre2 m1 m2 hs1 hR2 hpc1 hs hf0 hi1 hsi q2 r1 r2 r3 r4 r5 r6 hf1 hi1' q1 f4 f5 hei
      rintro k F w8 ⟨f0, f2, f3, f9, e1, s', cs, f10, f11, f12, h7, hbq2, hre2, hf1, q2, hi1', hrep⟩
      have hrep1 := hrep.out
      simp only [reps3] at hrep1
      rw [if_neg (by rw [hf1]; simp)] at hrep1
      clear hrep
      obtain ⟨r1, r2, r3, r4, r5, r6⟩ := repeat3_ok l s' hi1'
      obtain ⟨o, se, A1, c1, c2, lo1, hi1'', rfl⟩ := hre2.form
      have hlta := h7.at_.lt
      have hltq := hbq2.lt
      clear r4 r5 r6
      generalize repeat3 l s' = rp at *
      obtain ⟨⟨lo, hi, b⟩, s4⟩ := rp
      simp only at hrep1 h7 f10 f11 f12 q2 r1 r3
      cases b with
      | false =>
        rw [if_pos (show (!false) = true from rfl)] at hrep1
        injection hrep1 with hrep1
        injection hrep1 with e1 e2
        subst e1; subst e2
        repeat (first | refine qS ?_ | refine qB ?_ | refine qT rfl ?_ | refine qF rfl ?_ | ((first | refine qR rfl ?_ | refine qK ?_ | refine qE ?_ | refine qW ?_ | refine qM ?_); try simp -dsimp (maxSteps := 2000000) (disch := first | omega | (simp only [qZ] <;> omega) | fail) only [push_cast, ↓qP, ↓reduceIte, seval, f12]) | (refine qA ?_ ?_; (first | omega | (simp only [qL]; omega) | (simp only [qD] at *; omega))))
        exact Mid.mk ⟨by simp [upd, f0], by simp [upd, f2], by simp [upd, f3], by simp [upd, f9], q2, _, h7, hbq2, hre2⟩
      | true =>
      rw [if_neg (by simp)] at hrep1
      repeat (first | refine qS ?_ | refine qB ?_ | refine qT rfl ?_ | refine qF rfl ?_ | ((first | refine qR rfl ?_ | refine qK ?_ | refine qE ?_ | refine qW ?_ | refine qM ?_); try simp -dsimp (maxSteps := 2000000) (disch := first | omega | (simp only [qZ] <;> omega) | fail) only [push_cast, ↓qP, ↓reduceIte, seval, f12, f0, f9, f10, f11, hbq2.rdc, hbq2.fz]) | (refine qA ?_ ?_; (first | omega | (simp only [qL]; omega) | (simp only [qD] at *; omega))))
      have hk9 : Kp (· = q) w8 ((w8.alloc (.cells [.string (B o), .string (B se), .slice A1 c1 c2, .int .i64 lo1, .int .i64 hi1''].toArray 33)).setCells q 0 [.string (B opRep), .string (B []), .slice (some ⟨w8.heap.size, 0, none⟩) 1 1, .int .i64 lo, .int .i64 hi]) := ((Kp.refl (· = q) w8).alloc _).setCells (fun _ => rfl) [.string (B opRep), .string (B []), .slice (some ⟨w8.heap.size, 0, none⟩) 1 1, .int .i64 lo, .int .i64 hi] 0
      have h9 : Lq w a (rsO l s4) es A n cap N ((w8.alloc (.cells [.string (B o), .string (B se), .slice A1 c1 c2, .int .i64 lo1, .int .i64 hi1''].toArray 33)).setCells q 0 [.string (B opRep), .string (B []), .slice (some ⟨w8.heap.size, 0, none⟩) 1 1, .int .i64 lo, .int .i64 hi]) := (h7.alloc _).setq hqN _
      have hbq9 : Blk ((w8.alloc (.cells [.string (B o), .string (B se), .slice A1 c1 c2, .int .i64 lo1, .int .i64 hi1''].toArray 33)).setCells q 0 [.string (B opRep), .string (B []), .slice (some ⟨w8.heap.size, 0, none⟩) 1 1, .int .i64 lo, .int .i64 hi]) q 33 [.string (B opRep), .string (B []), .slice (some ⟨w8.heap.size, 0, none⟩) 1 1, .int .i64 lo, .int .i64 hi] := Blk.setAll (hbq2.alloc _) rfl
      have hre9 := IsRe.one_kid (m := w8.heap.size) (c := 1) (op := opRep) (set := []) (lo := lo) (hi := hi) (D' := fun b => N ≤ b ∧ b < ((w8.alloc (.cells [.string (B o), .string (B se), .slice A1 c1 c2, .int .i64 lo1, .int .i64 hi1''].toArray 33)).setCells q 0 [.string (B opRep), .string (B []), .slice (some ⟨w8.heap.size, 0, none⟩) 1 1, .int .i64 lo, .int .i64 hi]).heap.size ∧ b ≠ q)
        (Blk.farCells (b := q) (Nat.ne_of_gt hltq) [.string (B opRep), .string (B []), .slice (some ⟨w8.heap.size, 0, none⟩) 1 1, .int .i64 lo, .int .i64 hi] 0 _ (Blk.new w8 33 [.string (B o), .string (B se), .slice A1 c1 c2, .int .i64 lo1, .int .i64 hi1'']))
        (hre2.Kp (D' := fun b => N ≤ b ∧ b < ((w8.alloc (.cells [.string (B o), .string (B se), .slice A1 c1 c2, .int .i64 lo1, .int .i64 hi1''].toArray 33)).setCells q 0 [.string (B opRep), .string (B []), .slice (some ⟨w8.heap.size, 0, none⟩) 1 1, .int .i64 lo, .int .i64 hi]).heap.size ∧ b ≠ q) hk9 (fun b hb => hb.2.2) (fun b hb => ⟨hb.1, Nat.lt_of_lt_of_le hb.2.1 hk9.size, hb.2.2⟩)) (fun b hb => hb)
        ⟨by have := h7.N2; omega, by have h := (Blk.farCells (b := q) (Nat.ne_of_gt hltq) [.string (B opRep), .string (B []), .slice (some ⟨w8.heap.size, 0, none⟩) 1 1, .int .i64 lo, .int .i64 hi] 0 _ (Blk.new w8 33 [.string (B o), .string (B se), .slice A1 c1 c2, .int .i64 lo1, .int .i64 hi1''])).lt; exact h, by omega⟩
      refine CallV.gen (A := fun W => Lq w a (rsO l s4) es A n cap N W ∧ Blk W q 33 [.string (B opRep), .string (B []), .slice (some ⟨w8.heap.size, 0, none⟩) 1 1, .int .i64 lo, .int .i64 hi] ∧ IsRe W (fun b => N ≤ b ∧ b < W.heap.size ∧ b ≠ q) (.node opRep [] [e1] lo hi) [.string (B opRep), .string (B []), .slice (some ⟨w8.heap.size, 0, none⟩) 1 1, .int .i64 lo, .int .i64 hi]) ⟨h9, hbq9, hre9⟩ ?_
      clear h9 hbq9 hre9 hk9 hre2 hbq2 h7 hltq hlta
      rintro w9 ⟨h7, hbq2, hre2⟩
      have r3' : s4.i ≤ l.length := r3
      obtain ⟨k, rfl⟩ : ∃ k', k = k' + 1 := by
        cases k with
        | zero => simp [reps3] at hrep1
        | succ k => exact ⟨k, rfl⟩
      refine CallV.of isCall_97 (repeat_any h7.at_ q2 r3' hl) ?_
      obtain ⟨t1, t2, t3, t4, t5, t6⟩ := repeat3_ok l s4 r3'
      rintro e w10 (⟨q3, rfl, h6, k6⟩ | ⟨q3, x, rfl, x1, x2, k6⟩)
      case inr =>
        have hf3 := reps_off q2 q3 hrep1
        obtain ⟨t2, ht2⟩ := hfault hf3
        refine Sm.out ?_
        repeat (first | refine qS ?_ | refine qB ?_ | refine qT rfl ?_ | refine qF rfl ?_ | ((first | refine qR rfl ?_ | refine qK ?_ | refine qE ?_ | refine qW ?_ | refine qM ?_); try simp -dsimp (maxSteps := 2000000) (disch := first | omega | (simp only [qZ] <;> omega) | fail) only [push_cast, ↓qP, ↓reduceIte, seval]) | (refine qA ?_ ?_; (first | omega | (simp only [qL]; omega) | (simp only [qD] at *; omega))))
        exact Pan.mk (.inr ⟨t2, _, ht2, hf3, x, rfl, x1, x2, h7.kp.trans k6⟩)
      have h8 : Lq w a (rsO l (repeat3 l s4).2) es A n cap N w10 := h7.keep (rs' := rsO l (repeat3 l s4).2) (by show Rd w10 a l _ _; rw [t1]; exact h6) k6
      have hbq3 := k6.Blk hbq2 (by have := h7.lt; have := h7.N1; omega)
      have hre3 := hre2.Kp (D' := fun b => N ≤ b ∧ b < w10.heap.size ∧ b ≠ q) k6 (fun b hb e => by have := hb.1; have := h7.lt; have := h7.N1; omega) (fun b hb => ⟨hb.1, Nat.lt_of_lt_of_le hb.2.1 k6.size, hb.2.2⟩)
      refine Sm.out ?_
      repeat (first | refine qS ?_ | refine qB ?_ | refine qT rfl ?_ | refine qF rfl ?_ | ((first | refine qR rfl ?_ | refine qK ?_ | refine qE ?_ | refine qW ?_ | refine qM ?_); try simp -dsimp (maxSteps := 2000000) (disch := first | omega | (simp only [qZ] <;> omega) | fail) only [push_cast, ↓qP, ↓reduceIte, seval]) | (refine qA ?_ ?_; (first | omega | (simp only [qL]; omega) | (simp only [qD] at *; omega))))
      exact Again.mk k ⟨by simp [upd, f0], by simp [upd, f2], by simp [upd, f3], by simp [upd, f9], _, s4, _, by simp [upd], by simp [upd], by simp [upd], h8, hbq3, hre3, q2, q3, r3', ⟨hrep1⟩⟩ (by omega)
    obtain ⟨j1, j2, j3, j4, j5⟩ := reps3_ok l _ _ _ _ _ (fun h => (m1.2.2 h).2.2) hR2
    have m3 : Mv l s1 s3 := ⟨j1, by have := hs1.2.2.1; have := hs1.2.1; omega, fun h => ⟨(j4 h).1, j3, (j4 h).2⟩⟩
    clear f0 f2 f3 h5 hbq hre
    intro F w7 hMd
    obtain ⟨f0, f2, f3, f9, hf3, cs, h5, hbq, hre⟩ := hMd.out
    clear hMd
    obtain ⟨xs, hown, hel⟩ := h5.own
    obtain ⟨o, se, A1, c1, c2, lo1, hi1'', rfl⟩ := hre.form
    have hlta := h5.at_.lt
    have hltq := hbq.lt
    have hn := h5.n
    have hs3 := m3.st hs1
    have hi3 := m3.2.2 hf3
    have hm2 := m2 hf1
    repeat (first | refine qS ?_ | refine qB ?_ | refine qT rfl ?_ | refine qF rfl ?_ | ((first | refine qR rfl ?_ | refine qK ?_ | refine qE ?_ | refine qW ?_ | refine qM ?_); try simp -dsimp (maxSteps := 2000000) (disch := first | omega | (simp only [qZ] <;> omega) | fail) only [push_cast, ↓qP, ↓reduceIte, seval, f0, f2, f3, f9, hbq.rdc]) | (refine qA ?_ ?_; (first | omega | (simp only [qL]; omega) | (simp only [qD] at *; omega))))
    refine V_append (m := 1) _ _ _ rfl mk_31 rfl (hown.alloc _) rfl [.string (B o), .string (B se), .slice A1 c1 c2, .int .i64 lo1, .int .i64 hi1''] ?r rfl (by omega) (by omega) ?kk
    case r => simp -dsimp (maxSteps := 2000000) (disch := first | omega | (simp only [qZ] <;> omega) | fail) only [push_cast, ↓qP, ↓reduceIte, seval]
    case kk =>
      intro A' cap' w8 hown' hgrow hat
      have h9 := h5.append hown hel (IsRe.keep (fun b hb => ⟨hb.1, hb.2.1⟩) (fun b _ i n vs hr => hr) _ _ hre) hown' hgrow hat
      refine Sm.out ?_
      repeat (first | refine qS ?_ | refine qB ?_ | refine qT rfl ?_ | refine qF rfl ?_ | ((first | refine qR rfl ?_ | refine qK ?_ | refine qE ?_ | refine qW ?_ | refine qM ?_); try simp -dsimp (maxSteps := 2000000) (disch := first | omega | (simp only [qZ] <;> omega) | fail) only [push_cast, ↓qP, ↓reduceIte, seval, f0, f2, f3, f9]) | (refine qA ?_ ?_; (first | omega | (simp only [qL]; omega) | (simp only [qD] at *; omega))))
      refine CallV.of isCall_96 (peek_any h9.at_) ?_
      rintro _ _ ⟨rfl, rfl⟩
      refine Sm.out ?_
      repeat (first | refine qS ?_ | refine qB ?_ | refine qT rfl ?_ | refine qF rfl ?_ | ((first | refine qR rfl ?_ | refine qK ?_ | refine qE ?_ | refine qW ?_ | refine qM ?_); try simp -dsimp (maxSteps := 2000000) (disch := first | omega | (simp only [qZ] <;> omega) | fail) only [push_cast, ↓qP, ↓reduceIte, seval, f0]) | (refine qA ?_ ?_; (first | omega | (simp only [qL]; omega) | (simp only [qD] at *; omega))))
      exact Again.mk j ⟨by omega, by simp [upd, f0], by simp [upd, f2], es ++ [e'], s3, A', n + 1, cap', _, by simp [upd], by simp [upd], by simp [upd], h9, hs3, hf3, by simp; omega, ⟨hpc1⟩⟩ (by omega)
  clear h hs hR
  intro F w1 hMd
  obtain ⟨f2, es, s1, A, n, cap, N, f3, hRe, hf1, h1⟩ := hMd.out
  clear hMd
  obtain ⟨xs, hown, hel⟩ := h1.own
  repeat (first | refine qS ?_ | refine qB ?_ | refine qT rfl ?_ | refine qF rfl ?_ | ((first | refine qR rfl ?_ | refine qK ?_ | refine qE ?_ | refine qW ?_ | refine qM ?_); try simp -dsimp (maxSteps := 2000000) (disch := first | omega | (simp only [qZ] <;> omega) | fail) only [push_cast, ↓qP, ↓reduceIte, seval, f2, f3]) | (refine qA ?_ ?_; (first | omega | (simp only [qL]; omega) | (simp only [qD] at *; omega))))
  refine CallV.of isCall_90 (joined_any opCat hown hel h1.n (fun b hb => by have := hb.2.1; have := h1.N2; omega) (fun b hb => hown.lt hb)) ?_
  rintro _ w2 ⟨cs, rfl, hre, k2⟩
  have h2 := h1.keep (rs' := rsO l s1) (k2.Blk h1.at_ id) (k2.mono fun _ _ h => h.elim)
  have hltr := h2.r.lt
  have hrr := h2.r.rdc
  have hrz := h2.r.fz
  have hN := h2.N1
  obtain ⟨o, se, A1, c1, c2, lo1, hi1', rfl⟩ := hre.form
  refine Sm.out ?_
  repeat (first | refine qS ?_ | refine qB ?_ | refine qT rfl ?_ | refine qF rfl ?_ | ((first | refine qR rfl ?_ | refine qK ?_ | refine qE ?_ | refine qW ?_ | refine qM ?_); try simp -dsimp (maxSteps := 2000000) (disch := first | omega | (simp only [qZ] <;> omega) | fail) only [push_cast, ↓qP, ↓reduceIte, seval, f2, hrr, hrz]) | (refine qA ?_ ?_; (first | omega | (simp only [qL]; omega) | (simp only [qD] at *; omega))))
  exact post_oe (w1 := w2) (cs := [.string (B o), .string (B se), .slice A1 c1 c2, .int .i64 lo1, .int .i64 hi1']) h2.at_ h2.r h2.kp h2.lt (hgood _ _ hRe) hf1 (by simp [upd, f2]) hre (fun b hb => by
    have := h2.N2
    rcases hb with hb | hb
    · exact ⟨hb.1, by have := hb.2.1; omega⟩
    · have := h1.fresh b hb; exact ⟨this.1, by omega⟩)
end
end Go.Proofs.Ytddichibegppjaa

/- The program's reader: branches, group, atom. -/
namespace Go.Proofs.Ytddichibegppjaa
open Go Go.VC Go.RowKit

theorem branch_off {l : List UInt8} {k : Nat} {es : List Re} {s : S3} {R : List Re × S3} (h : s.f ≠ 0) (hR : branch3 l k es s = some R) : R = (es, s) := by
  cases k with
  | zero => simp [branch3] at hR
  | succ k => simp only [branch3, more_off h] at hR; simpa using hR.symm
theorem branches_join {l : List UInt8} {k : Nat} {s : S3} {e0 : Re} {s0 : S3} {es : List Re} {s1 : S3} (hp : pieces3 l k s = some (e0, s0)) (hR : branch3 l k [e0] s0 = some (es, s1)) : branches3 l (k + 1) s = some (joinT opAlt es, s1) := by
  simp only [branches3, hp, hR]
  match es with
  | [] => rfl
  | [e] => rfl
  | _ :: _ :: _ => rfl
theorem piece_end {l : List UInt8} : ∀ {k : Nat} {es : List Re} {s : S3} {r : Option (List Re)} {s' : S3}, piece3 l k es s = some (r, s') → s'.f = 0 → s'.i < l.length → byteAt l s'.i = 124 ∨ byteAt l s'.i = 41
  | 0, es, s, r, s', h, _, _ => by simp [piece3] at h
  | k + 1, es, s, r, s', h, hf, hi => by
    simp only [piece3] at h
    split at h
    · generalize (if (repeat3 l s).1.2.2 = true then (repeat3 l s).2.fail 3 else (repeat3 l s).2) = s1 at h
      by_cases h2 : s1.f ≠ 0
      · rw [if_pos h2] at h
        injection h with h; injection h with h3 h4; rw [← h4] at hf; exact absurd hf h2
      · rw [if_neg h2] at h
        cases ha : atom3 l k s1 with
        | none => rw [ha] at h; cases h
        | some p =>
          obtain ⟨e, s2⟩ := p
          rw [ha] at h
          simp only at h
          cases hr : reps3 l (l.length + 2) e s2 with
          | none => rw [hr] at h; cases h
          | some p =>
            obtain ⟨e', s3⟩ := p
            rw [hr] at h
            exact piece_end h hf hi
    · rename_i h2
      injection h with h; injection h with h3 h4
      subst h4
      rw [more_eq hf, decide_eq_true hi] at h2
      simp at h2
      by_cases e : byteAt l s.i = 124
      · exact .inl e
      · exact .inr (h2 e)
theorem pieces_end {l : List UInt8} {k : Nat} {s : S3} {t : Re} {s' : S3} (h : pieces3 l k s = some (t, s')) (hf : s'.f = 0) (hi : s'.i < l.length) : byteAt l s'.i = 124 ∨ byteAt l s'.i = 41 := by
  cases k with
  | zero => simp [pieces3] at h
  | succ k =>
    simp only [pieces3] at h
    cases hp : piece3 l k [] s with
    | none => rw [hp] at h; cases h
    | some R =>
      obtain ⟨r, s1⟩ := R
      obtain ⟨t2, ht2⟩ := pieces_of hp
      simp only [pieces3] at ht2
      rw [h] at ht2
      injection ht2 with ht2; injection ht2 with _ ht2
      subst ht2
      exact piece_end hp hf hi
theorem branch_end {l : List UInt8} : ∀ {k : Nat} {es : List Re} {s : S3} {es' : List Re} {s' : S3}, branch3 l k es s = some (es', s') → (s.f = 0 → s.i < l.length → byteAt l s.i = 124 ∨ byteAt l s.i = 41) → s'.f = 0 → s'.i < l.length → byteAt l s'.i = 41
  | 0, es, s, es', s', h, _, _, _ => by simp [branch3] at h
  | k + 1, es, s, es', s', h, h0, hf, hi => by
    simp only [branch3] at h
    split at h
    · split at h
      · cases h
      · rename_i e s1 hp
        exact branch_end h (fun hf hi => pieces_end hp hf hi) hf hi
    · rename_i h2
      injection h with h; injection h with h3 h4
      subst h4
      rw [more_eq hf, decide_eq_true hi] at h2
      exact (h0 hf hi).resolve_left (by simpa using h2)
theorem branches_end {l : List UInt8} {k : Nat} {s : S3} {t : Re} {s' : S3} (h : branches3 l k s = some (t, s')) (hf : s'.f = 0) (hi : s'.i < l.length) : byteAt l s'.i = 41 := by
  cases k with
  | zero => simp [branches3] at h
  | succ k =>
    have h' := h
    simp only [branches3] at h'
    cases hp : pieces3 l k s with
    | none => rw [hp] at h'; cases h'
    | some R =>
      obtain ⟨e0, s0⟩ := R
      rw [hp] at h'
      simp only at h'
      cases hb : branch3 l k [e0] s0 with
      | none => rw [hb] at h'; cases h'
      | some R2 =>
        obtain ⟨es, s2⟩ := R2
        rw [branches_join hp hb] at h
        injection h with h; injection h with _ h
        subst h
        exact branch_end hb (fun hf hi => pieces_end hp hf hi) hf hi

section
variable {a : Nat} {l : List UInt8} {s s' : S3} {w w1 w2 : World}
theorem Lq.first {rs : List Value} {e : Re} {cs : List Value} {m : Nat} (h2 : Blk w1 a 133 rs) (hr : Blk w1 w.heap.size 33 zRe) (hk : Kp (· = a) w w1) (hlt : a < w.heap.size) (hre : IsRe w1 (fun b => w.heap.size < b ∧ b < w1.heap.size) e cs) (hm : m = w1.heap.size) :
    Lq w a rs [e] (some ⟨m, 0, none⟩) 1 1 (m + 1) (w1.alloc (.cells cs.toArray 33)) := by
  have hl := hr.lt
  have hk2 : Kp (fun _ => False) w1 (w1.alloc (.cells cs.toArray 33)) := (Kp.refl _ w1).alloc _
  subst hm
  have hle := hre.len
  exact ⟨h2.alloc _, hr.alloc _, ⟨cs, Own.mk' (cur := cs.toArray) (Blk.new w1 33 cs) (Nat.le_refl _) (by decide) (by simp [hle]) (List.take_of_length_le (Nat.le_of_eq hle)), cs, [], by simp, hre.Kp hk2 (fun _ _ => id) (fun b hb => ⟨hb.1, by have := hb.2; omega, by simp [bk]; have := hb.2; omega⟩), rfl⟩, rfl,
    by intro g hg; simp only [bk, Option.map_some] at hg; injection hg with hg; subst hg; exact ⟨hl, Nat.lt_succ_self _⟩, hk.alloc _, hlt, by omega, by simp⟩

theorem branches_any (k : Nat) (hl : l.length ≤ 1000000) (ha : a ≠ 1) (ih : ∀ j, j < k → EP l a j) : EB l a k := by
  intro s w h hs hsf hM hex
  obtain ⟨k, rfl⟩ : ∃ k', k = k' + 1 := by
    cases k with
    | zero => obtain ⟨r, hr⟩ := hex; simp [branches3] at hr
    | succ k => exact ⟨k, rfl⟩
  obtain ⟨⟨e0, s0⟩, hp0⟩ : ∃ R, pieces3 l k s = some R := by
    cases hp : pieces3 l k s with
    | none => obtain ⟨r, hr⟩ := hex; simp [branches3, hp] at hr
    | some R => exact ⟨R, rfl⟩
  obtain ⟨R, hR⟩ : ∃ R, branch3 l k [e0] s0 = some R := by
    cases hp : branch3 l k [e0] s0 with
    | none => obtain ⟨r, hr⟩ := hex; simp [branches3, hp0, hp] at hr
    | some R => exact ⟨R, rfl⟩
  clear hex
  have hgood : ∀ es s1, R = (es, s1) → branches3 l (k + 1) s = some (joinT opAlt es, s1) := fun es s1 e => branches_join hp0 (by rw [hR, e])
  generalize branches3 l (k + 1) s = T at *
  have hlt := h.lt
  obtain ⟨m0, _⟩ := (reads_ok l k).2.2.2.1 _ _ _ hs hp0
  have hs0 := m0.st hs
  refine enter (n := 16) (args := [.pointer (some ⟨a, 0, none⟩)]) Try.func81 rfl rfl rfl (by simp) ?_
  repeat (first | refine qS ?_ | refine qB ?_ | refine qT rfl ?_ | refine qF rfl ?_ | ((first | refine qR rfl ?_ | refine qK ?_ | refine qE ?_ | refine qW ?_ | refine qM ?_); try simp -dsimp (maxSteps := 2000000) (disch := first | omega | (simp only [qZ] <;> omega) | fail) only [push_cast, ↓qP, ↓reduceIte, seval]) | (refine qA ?_ ?_; (first | omega | (simp only [qL]; omega) | (simp only [qD] at *; omega))))
  refine CallV.of isCall_88 (ih k (by omega) s (w.alloc (.cells zRe.toArray 33)) (h.alloc _) hs hsf (hM.kp ((Kp.refl (fun _ => False) _).alloc _) id) ⟨_, hp0⟩) ?_
  have hk0 : Kp (· = a) w (w.alloc (.cells zRe.toArray 33)) := (Kp.refl (· = a) w).alloc (.cells zRe.toArray 33)
  rintro e w1 (⟨t', s1', cs, he, hf0, rfl, hre, h1, hk1⟩ | ⟨t', s1', he, hf0, x, rfl, x1, x2, hk1⟩)
  case inr =>
    rw [hp0] at he
    injection he with he
    injection he with he1 he2
    subst he1; subst he2
    refine Sm.out ?_
    repeat (first | refine qS ?_ | refine qB ?_ | refine qT rfl ?_ | refine qF rfl ?_ | ((first | refine qR rfl ?_ | refine qK ?_ | refine qE ?_ | refine qW ?_ | refine qM ?_); try simp -dsimp (maxSteps := 2000000) (disch := first | omega | (simp only [qZ] <;> omega) | fail) only [push_cast, ↓qP, ↓reduceIte, seval]) | (refine qA ?_ ?_; (first | omega | (simp only [qL]; omega) | (simp only [qD] at *; omega))))
    exact Pan.mk (.inr ⟨_, _, hgood _ _ (branch_off hf0 hR), hf0, x, rfl, x1, x2, hk0.trans hk1⟩)
  rw [hp0] at he
  injection he with he
  injection he with he1 he2
  subst he1; subst he2
  have hsz : (w.alloc (.cells zRe.toArray 33)).heap.size = w.heap.size + 1 := by simp
  have hk2 : Kp (· = a) w w1 := hk0.trans hk1
  have hL := Lq.first (w := w) (rs := rsO l s0) h1 (hk1.Blk (Blk.new w 33 zRe) (Nat.ne_of_gt hlt)) hk2 hlt (IsRe.keep (fun b hb => ⟨by have := hb.1; omega, hb.2⟩) (fun b _ i n vs hr => hr) _ _ hre) rfl
  obtain ⟨o, se, A1, c1, c2, lo1, hi1', rfl⟩ := hre.form
  clear h1 hk1 hk2 hre hsz hk0
  refine Sm.out ?_
  repeat (first | ((fail_if_success (first | refine qX (n := 0) ?_)); refine qS ?_) | refine qB ?_ | refine qT rfl ?_ | refine qF rfl ?_ | ((first | refine qR rfl ?_ | refine qK ?_ | refine qE ?_ | refine qW ?_ | refine qM ?_); try simp -dsimp (maxSteps := 2000000) (disch := first | omega | (simp only [qZ] <;> omega) | fail) only [push_cast, ↓qP, ↓reduceIte, seval]) | (refine qA ?_ ?_; (first | omega | (simp only [qL]; omega) | (simp only [qD] at *; omega))))
  refine Wp.cutQ (fun F' w' => F' 2 = .pointer (some ⟨w.heap.size, 0, none⟩) ∧ ∃ es s1 A n cap N, F' 3 = .slice A n cap ∧ R = (es, s1) ∧ s1.f = 0 ∧ Lq w a (rsO l s1) es A n cap N w') ?_ ?_
  · repeat (first | refine qS ?_ | refine qB ?_ | refine qT rfl ?_ | refine qF rfl ?_ | ((first | refine qR rfl ?_ | refine qK ?_ | refine qE ?_ | refine qW ?_ | refine qM ?_); try simp -dsimp (maxSteps := 2000000) (disch := first | omega | (simp only [qZ] <;> omega) | fail) only [push_cast, ↓qP, ↓reduceIte, seval]) | (refine qA ?_ ?_; (first | omega | (simp only [qL]; omega) | (simp only [qD] at *; omega))))
    refine Wp.loop (α := Nat) (fun j F w2 => j ≤ k ∧ F 0 = .pointer (some ⟨a, 0, none⟩) ∧ F 2 = .pointer (some ⟨w.heap.size, 0, none⟩) ∧ ∃ es s1 A n cap N, F 3 = .slice A n cap ∧ Lq w a (rsO l s1) es A n cap N w2 ∧ St3 l s1 ∧ s1.f = 0 ∧ es.length ≤ s1.i + 1 ∧ Hide (branch3 l j es s1 = some R)) (fun j => j) k
      ⟨Nat.le_refl _, by simp [upd, arg], by simp [upd], [e0], s0, _, _, _, _, by simp [upd], hL, hs0, hf0, by simp, ⟨hR⟩⟩ ?_
    clear h hs hR hL hs0 m0 hsf hf0
    rintro j F w2 ⟨hjk, f0, f2, es, s1, A, n, cap, N, f3, h1, hs, hf0, hei, hpc⟩
    obtain ⟨j, rfl⟩ : ∃ j', j = j' + 1 := by
      cases j with
      | zero => have := hpc.out; simp [branch3] at this
      | succ j => exact ⟨j, rfl⟩
    have hpc1 := hpc.out
    simp only [branch3, more_eq hf0] at hpc1
    clear hpc
    have hsi := hs.2.2.2 hf0
    have hcond : (decide (s1.i < l.length) && byteAt l s1.i == 124) = hasAt l s1.i 124 := rfl
    rw [hcond] at hpc1
    repeat (first | refine qS ?_ | refine qB ?_ | refine qT rfl ?_ | refine qF rfl ?_ | ((first | refine qR rfl ?_ | refine qK ?_ | refine qE ?_ | refine qW ?_ | refine qM ?_); try simp -dsimp (maxSteps := 2000000) (disch := first | omega | (simp only [qZ] <;> omega) | fail) only [push_cast, ↓qP, ↓reduceIte, seval, f0]) | (refine qA ?_ ?_; (first | omega | (simp only [qL]; omega) | (simp only [qD] at *; omega))))
    refine CallV.of isCall_89 (take_one (d := s1.d) h1.at_ 124) ?_
    rintro _ w3 ⟨rfl, h2, k2⟩
    cases hc : hasAt l s1.i 124 with
    | false =>
      rw [hc] at h2 hpc1
      rw [if_neg (by simp)] at hpc1
      injection hpc1 with hpc1
      refine Sm.out ?_
      repeat (first | refine qS ?_ | refine qB ?_ | refine qT rfl ?_ | refine qF rfl ?_ | ((first | refine qR rfl ?_ | refine qK ?_ | refine qE ?_ | refine qW ?_ | refine qM ?_); try simp -dsimp (maxSteps := 2000000) (disch := first | omega | (simp only [qZ] <;> omega) | fail) only [push_cast, ↓qP, ↓reduceIte, seval, f0]) | (refine qA ?_ ?_; (first | omega | (simp only [qL]; omega) | (simp only [qD] at *; omega))))
      exact Mid.mk ⟨by simp [upd, f2], es, s1, A, n, cap, N, by simp [upd, f3], hpc1.symm, hf0, h1.keep (rs' := rsO l s1) h2 k2⟩
    | true =>
    rw [hc] at h2 hpc1
    rw [if_pos rfl] at hpc1
    have hi1 := hasAt_lt hc
    have h3 := h1.keep (rs' := rsO l s1.on) h2 k2
    obtain ⟨⟨e, s2⟩, hp⟩ : ∃ p, pieces3 l j s1.on = some p := by
      cases hp : pieces3 l j s1.on with
      | none => rw [hp] at hpc1; cases hpc1
      | some p => exact ⟨p, rfl⟩
    rw [hp] at hpc1
    simp only [] at hpc1
    have hs2 := hs.2.1
    have on1 : Mv l s1 s1.on := ⟨rfl, by show ((s1.i + 1 : Nat) : Int) + _ ≤ _; omega, fun h => ⟨h, by show s1.i ≤ s1.i + 1; omega, by show s1.i + 1 ≤ _; omega⟩⟩
    have hs4 := on1.st hs
    obtain ⟨m1, _⟩ := (reads_ok l j).2.2.2.1 _ _ _ hs4 hp
    clear h1 h2 k2
    refine Sm.out ?_
    repeat (first | refine qS ?_ | refine qB ?_ | refine qT rfl ?_ | refine qF rfl ?_ | ((first | refine qR rfl ?_ | refine qK ?_ | refine qE ?_ | refine qW ?_ | refine qM ?_); try simp -dsimp (maxSteps := 2000000) (disch := first | omega | (simp only [qZ] <;> omega) | fail) only [push_cast, ↓qP, ↓reduceIte, seval, f0, f3]) | (refine qA ?_ ?_; (first | omega | (simp only [qL]; omega) | (simp only [qD] at *; omega))))
    refine CallV.of isCall_88 (ih j (by omega) s1.on w3 h3.at_ hs4 hf0 (hM.kp h3.kp (fun e => ha e.symm)) ⟨_, hp⟩) ?_
    rintro e w4 (⟨t', s1', cs, he, hf1, rfl, hre, h4, k4⟩ | ⟨t', s1', he, hf1, x, rfl, x1, x2, k4⟩)
    case inr =>
      rw [hp] at he
      injection he with he
      injection he with he1 he2
      subst he1; subst he2
      refine Sm.out ?_
      repeat (first | refine qS ?_ | refine qB ?_ | refine qT rfl ?_ | refine qF rfl ?_ | ((first | refine qR rfl ?_ | refine qK ?_ | refine qE ?_ | refine qW ?_ | refine qM ?_); try simp -dsimp (maxSteps := 2000000) (disch := first | omega | (simp only [qZ] <;> omega) | fail) only [push_cast, ↓qP, ↓reduceIte, seval]) | (refine qA ?_ ?_; (first | omega | (simp only [qL]; omega) | (simp only [qD] at *; omega))))
      exact Pan.mk (.inr ⟨_, _, hgood _ _ (branch_off hf1 hpc1), hf1, x, rfl, x1, x2, h3.kp.trans k4⟩)
    rw [hp] at he
    injection he with he
    injection he with he1 he2
    subst he1; subst he2
    have h5 := h3.keep (rs' := rsO l s2) h4 k4
    have hN2 := h3.N2
    obtain ⟨xs, hown, hel⟩ := h5.own
    obtain ⟨o, se, A1, c1, c2, lo1, hi1', rfl⟩ := hre.form
    have hlta := h5.at_.lt
    have hn := h5.n
    have hmi := (m1.2.2 hf1).2.1
    change s1.i + 1 ≤ _ at hmi
    clear h3 h4 k4 hp
    refine Sm.out ?_
    repeat (first | refine qS ?_ | refine qB ?_ | refine qT rfl ?_ | refine qF rfl ?_ | ((first | refine qR rfl ?_ | refine qK ?_ | refine qE ?_ | refine qW ?_ | refine qM ?_); try simp -dsimp (maxSteps := 2000000) (disch := first | omega | (simp only [qZ] <;> omega) | fail) only [push_cast, ↓qP, ↓reduceIte, seval, f0, f2, f3]) | (refine qA ?_ ?_; (first | omega | (simp only [qL]; omega) | (simp only [qD] at *; omega))))
    refine V_append (m := 1) _ _ _ rfl mk_31 rfl (hown.alloc _) rfl [.string (B o), .string (B se), .slice A1 c1 c2, .int .i64 lo1, .int .i64 hi1'] ?r rfl (by omega) (by omega) ?kk
    case r => simp -dsimp (maxSteps := 2000000) (disch := first | omega | (simp only [qZ] <;> omega) | fail) only [push_cast, ↓qP, ↓reduceIte, seval]
    case kk =>
      intro A' cap' w8 hown' hgrow hat
      have h9 := h5.append hown hel (IsRe.keep (fun b hb => ⟨by have := hb.1; omega, hb.2⟩) (fun b _ i n vs hr => hr) _ _ hre) hown' hgrow hat
      refine Sm.out ?_
      repeat (first | refine qS ?_ | refine qB ?_ | refine qT rfl ?_ | refine qF rfl ?_ | ((first | refine qR rfl ?_ | refine qK ?_ | refine qE ?_ | refine qW ?_ | refine qM ?_); try simp -dsimp (maxSteps := 2000000) (disch := first | omega | (simp only [qZ] <;> omega) | fail) only [push_cast, ↓qP, ↓reduceIte, seval, f0, f2, f3]) | (refine qA ?_ ?_; (first | omega | (simp only [qL]; omega) | (simp only [qD] at *; omega))))
      exact Again.mk j ⟨by omega, by simp [upd, f0], by simp [upd, f2], es ++ [e], s2, A', n + 1, cap', _, by simp [upd], h9, m1.st hs4, hf1, by simp; omega, ⟨hpc1⟩⟩ (by omega)
  clear h hs hR hL
  intro F w1 hMd
  obtain ⟨f2, es, s1, A, n, cap, N, f3, hRe, hf1, h1⟩ := hMd.out
  clear hMd
  obtain ⟨xs, hown, hel⟩ := h1.own
  repeat (first | refine qS ?_ | refine qB ?_ | refine qT rfl ?_ | refine qF rfl ?_ | ((first | refine qR rfl ?_ | refine qK ?_ | refine qE ?_ | refine qW ?_ | refine qM ?_); try simp -dsimp (maxSteps := 2000000) (disch := first | omega | (simp only [qZ] <;> omega) | fail) only [push_cast, ↓qP, ↓reduceIte, seval, f2, f3]) | (refine qA ?_ ?_; (first | omega | (simp only [qL]; omega) | (simp only [qD] at *; omega))))
  refine CallV.of isCall_90 (joined_any opAlt hown hel h1.n (fun b hb => by have := hb.2.1; have := h1.N2; omega) (fun b hb => hown.lt hb)) ?_
  rintro _ w2 ⟨cs, rfl, hre, k2⟩
  have h2 := h1.keep (rs' := rsO l s1) (k2.Blk h1.at_ id) (k2.mono fun _ _ h => h.elim)
  have hltr := h2.r.lt
  have hrr := h2.r.rdc
  have hrz := h2.r.fz
  have hN := h2.N1
  obtain ⟨o, se, A1, c1, c2, lo1, hi1', rfl⟩ := hre.form
  refine Sm.out ?_
  repeat (first | refine qS ?_ | refine qB ?_ | refine qT rfl ?_ | refine qF rfl ?_ | ((first | refine qR rfl ?_ | refine qK ?_ | refine qE ?_ | refine qW ?_ | refine qM ?_); try simp -dsimp (maxSteps := 2000000) (disch := first | omega | (simp only [qZ] <;> omega) | fail) only [push_cast, ↓qP, ↓reduceIte, seval, f2, hrr, hrz]) | (refine qA ?_ ?_; (first | omega | (simp only [qL]; omega) | (simp only [qD] at *; omega))))
  exact post_oe (w1 := w2) (cs := [.string (B o), .string (B se), .slice A1 c1 c2, .int .i64 lo1, .int .i64 hi1']) h2.at_ h2.r h2.kp h2.lt (hgood _ _ hRe) hf1 (by simp [upd, f2]) hre (fun b hb => by
    have := h2.N2
    rcases hb with hb | hb
    · exact ⟨hb.1, by have := hb.2.1; omega⟩
    · have := h1.fresh b hb; exact ⟨this.1, by omega⟩)
end
end Go.Proofs.Ytddichibegppjaa

/- The program's reader: group, atom; all of them. -/
namespace Go.Proofs.Ytddichibegppjaa
open Go Go.VC Go.RowKit

theorem bytesOf_all : bytesOf noSet true = allBytes := by decide +kernel
section
variable {a : Nat} {l : List UInt8} {s s' : S3} {w w1 w2 : World}

theorem group_any (k : Nat) (hl : l.length ≤ 1000000) (ha : a ≠ 1) (ih : EB l a k) (h : Rd w a l (s.i + 1) s.d) (hs : St3 l s) (hsf : s.f = 0) (hi : s.i < l.length) (hM : MaxL w) (hc : byteAt l s.i = 40) (hex : ∃ r, atom3 l (k + 1) s = some r) :
    Calls Try.prog 103 #[.pointer (some ⟨a, 0, none⟩)] w (OutG w a l (atom3 l (k + 1) s)) := by
  have hlt := h.lt
  have hd := hs.1
  have hd2 := hs.2.1
  have hat : atom3 l (k + 1) s = if s.d ≥ 100 then some (Re.zero, s.fail 1) else match branches3 l k { s with i := s.i + 1, d := s.d + 1 } with
        | none => none
        | some (e, s1) => some (e, (if s1.f == 0 && decide ((s1.i : Int) ≥ (l.length : Int)) then ({ s1 with d := s1.d - 1 } : S3).fail 1 else ({ s1 with d := s1.d - 1 } : S3)).on) := by
    simp only [atom3, hc]; rfl
  rw [hat] at hex ⊢
  clear hat
  have hb := h.blk.rdc
  have hz := h.blk.fz
  refine enter (n := 31) (args := [.pointer (some ⟨a, 0, none⟩)]) Try.func103 rfl rfl rfl (by simp) ?_
  by_cases h100 : s.d ≥ 100
  · rw [if_pos h100]
    have c1 : decide (s.d + 1 > 100) = true := decide_eq_true (by omega)
    repeat (first | refine qS ?_ | refine qB ?_ | refine qT rfl ?_ | refine qF rfl ?_ | ((first | refine qR rfl ?_ | refine qK ?_ | refine qE ?_ | refine qW ?_ | refine qM ?_); try simp -dsimp (maxSteps := 2000000) (disch := first | omega | (simp only [qZ] <;> omega) | fail) only [push_cast, ↓qP, ↓reduceIte, seval, hb, hz, c1]) | (refine qA ?_ ?_; (first | omega | (simp only [qL]; omega) | (simp only [qD] at *; omega))))
    exact Pan.mk (.inr ⟨Re.zero, _, rfl, fail_f _ (by decide), 1, rfl, by decide, by decide, ((Kp.refl (· = a) w).alloc _).setCell (fun _ => rfl) _⟩)
  rw [if_neg h100] at hex ⊢
  have c1 : decide (s.d + 1 > 100) = false := decide_eq_false (by omega)
  obtain ⟨⟨t, s1⟩, hp⟩ : ∃ p, branches3 l k { s with i := s.i + 1, d := s.d + 1 } = some p := by
    cases hp : branches3 l k { s with i := s.i + 1, d := s.d + 1 } with
    | none => rw [hp] at hex; obtain ⟨r, hr⟩ := hex; cases hr
    | some p => exact ⟨p, rfl⟩
  rw [hp]
  simp only []
  clear hex
  have hs3 := hs.2.2.1
  have hst : St3 l { s with i := s.i + 1, d := s.d + 1 } := ⟨by show 0 ≤ s.d + 1; omega, by show s.d + 1 ≤ 100; omega, by show ((s.i + 1 : Nat) : Int) + (s.d + 1) ≤ _; omega, fun _ => by show s.i + 1 ≤ _; omega⟩
  obtain ⟨m1, _⟩ := (reads_ok l k).2.2.2.2 _ _ _ hst hp
  have hd1 : s1.d = s.d + 1 := m1.1
  obtain ⟨r, hr⟩ : ∃ r, r = w.heap.size := ⟨_, rfl⟩
  refine Sm.out ?_
  repeat (first | ((fail_if_success (first | refine qY (n := 4) ?_ | refine qV (n := 4) ?_)); refine qS ?_) | refine qB ?_ | refine qT rfl ?_ | refine qF rfl ?_ | ((first | refine qR rfl ?_ | refine qK ?_ | refine qE ?_ | refine qW ?_ | refine qM ?_); try simp -dsimp (maxSteps := 2000000) (disch := first | omega | (simp only [qZ] <;> omega) | fail) only [push_cast, ↓qP, ↓reduceIte, seval, hb, hz, c1]) | (refine qA ?_ ?_; (first | omega | (simp only [qL]; omega) | (simp only [qD] at *; omega))))
  have hrd : Rd ((w.alloc (.cells zRe.toArray 33)).setCell ⟨a, 1, none⟩ (.int .i64 (s.d + 1))) a l (s.i + 1) (s.d + 1) := (h.blk.alloc _).set 1 _
  have hk : Kp (· = a) w ((w.alloc (.cells zRe.toArray 33)).setCell ⟨a, 1, none⟩ (.int .i64 (s.d + 1))) := ((Kp.refl (· = a) w).alloc _).setCell (fun _ => rfl) _
  have hbr : Blk ((w.alloc (.cells zRe.toArray 33)).setCell ⟨a, 1, none⟩ (.int .i64 (s.d + 1))) r 33 zRe := by rw [hr]; exact (Blk.new w 33 zRe).far (p := ⟨a, 1, none⟩) (Nat.ne_of_gt hlt) _
  rw [← hr]
  refine Wp.gen (A := fun W => Rd W a l (s.i + 1) (s.d + 1) ∧ Kp (· = a) w W ∧ Blk W r 33 zRe) ⟨hrd, hk, hbr⟩ ?_
  clear hrd hk hbr hb hz h
  rintro W ⟨h, k0, hbr⟩
  repeat (first | refine qS ?_ | refine qB ?_ | refine qT rfl ?_ | refine qF rfl ?_ | ((first | refine qR rfl ?_ | refine qK ?_ | refine qE ?_ | refine qW ?_ | refine qM ?_); try simp -dsimp (maxSteps := 2000000) (disch := first | omega | (simp only [qZ] <;> omega) | fail) only [push_cast, ↓qP, ↓reduceIte, seval]) | (refine qA ?_ ?_; (first | omega | (simp only [qL]; omega) | (simp only [qD] at *; omega))))
  refine CallV.of isCall_81 (ih { s with i := s.i + 1, d := s.d + 1 } W h hst hsf (hM.kp k0 (fun e => ha e.symm)) ⟨_, hp⟩) ?_
  rintro e w1 (⟨t', s1', cs, he, hf1, rfl, hre, h1, hk1⟩ | ⟨t', s1', he, hf1, x, rfl, x1, x2, hk1⟩)
  case inr =>
    rw [hp] at he
    injection he with he
    injection he with he1 he2
    subst he1; subst he2
    refine Sm.out ?_
    repeat (first | refine qS ?_ | refine qB ?_ | refine qT rfl ?_ | refine qF rfl ?_ | ((first | refine qR rfl ?_ | refine qK ?_ | refine qE ?_ | refine qW ?_ | refine qM ?_); try simp -dsimp (maxSteps := 2000000) (disch := first | omega | (simp only [qZ] <;> omega) | fail) only [push_cast, ↓qP, ↓reduceIte, seval]) | (refine qA ?_ ?_; (first | omega | (simp only [qL]; omega) | (simp only [qD] at *; omega))))
    refine Pan.mk (.inr ⟨_, _, rfl, ?_, x, rfl, x1, x2, k0.trans hk1⟩)
    have : (s1.f == 0) = false := by simpa using hf1
    rw [this]; exact hf1
  rw [hp] at he
  injection he with he
  injection he with he1 he2
  subst he1; subst he2
  have hend := branches_end hp hf1
  have hi1 := (m1.2.2 hf1).2.2
  have k1 := k0.trans hk1
  have hbr1 := hk1.Blk hbr (by omega)
  obtain ⟨o, se, A1, c1', c2, lo1, hi1', rfl⟩ := hre.form
  obtain ⟨q, hq⟩ : ∃ q, q = w1.heap.size := ⟨_, rfl⟩
  have hrW : r < W.heap.size := hbr.lt
  have hWq : W.heap.size ≤ q := by have := hk1.size; omega
  have haW := h.lt
  refine Sm.out ?_
  repeat (first | ((fail_if_success (first | refine qY (n := 5) ?_ | refine qV (n := 5) ?_)); refine qS ?_) | refine qB ?_ | refine qT rfl ?_ | refine qF rfl ?_ | ((first | refine qR rfl ?_ | refine qK ?_ | refine qE ?_ | refine qW ?_ | refine qM ?_); try simp -dsimp (maxSteps := 2000000) (disch := first | omega | (simp only [qZ] <;> omega) | fail) only [push_cast, ↓qP, ↓reduceIte, seval]) | (refine qA ?_ ?_; (first | omega | (simp only [qL]; omega) | (simp only [qD] at *; omega))))
  rw [← hq]
  refine Wp.gen (w := (w1.alloc (.cells zRe.toArray 33)).setCells q 0 [.string (B o), .string (B se), .slice A1 c1' c2, .int .i64 lo1, .int .i64 hi1']) (A := fun W3 => Rd W3 a l s1.i s1.d ∧ Kp (· = a) w W3 ∧ Blk W3 r 33 zRe ∧ Blk W3 q 33 [.string (B o), .string (B se), .slice A1 c1' c2, .int .i64 lo1, .int .i64 hi1'] ∧ IsRe W3 (fun b => r < b ∧ b < W3.heap.size) t [.string (B o), .string (B se), .slice A1 c1' c2, .int .i64 lo1, .int .i64 hi1']) ?_ ?_
  · have hkq : Kp (· = q) w1 ((w1.alloc (.cells zRe.toArray 33)).setCells q 0 [.string (B o), .string (B se), .slice A1 c1' c2, .int .i64 lo1, .int .i64 hi1']) := ((Kp.refl (· = q) w1).alloc _).setCells (fun _ => rfl) [.string (B o), .string (B se), .slice A1 c1' c2, .int .i64 lo1, .int .i64 hi1'] 0
    exact ⟨hkq.Blk h1.blk (by omega), k1.trans' hkq (fun i hi e => by omega), hkq.Blk hbr1 (by omega), Blk.setAll (cs := zRe) (vs := [.string (B o), .string (B se), .slice A1 c1' c2, .int .i64 lo1, .int .i64 hi1']) (by rw [hq]; exact Blk.new w1 33 zRe) rfl,
      hre.Kp hkq (fun b hb e => by have := hb.2; omega) (fun b hb => ⟨by have := hb.1; omega, Nat.lt_of_lt_of_le hb.2 hkq.size⟩)⟩
  clear h h1 k0 hk1 hbr hbr1 hre k1
  rintro W3 ⟨h1, k1, hbr1, hbq, hre⟩
  repeat (first | refine qS ?_ | refine qB ?_ | refine qT rfl ?_ | refine qF rfl ?_ | ((first | refine qR rfl ?_ | refine qK ?_ | refine qE ?_ | refine qW ?_ | refine qM ?_); try simp -dsimp (maxSteps := 2000000) (disch := first | omega | (simp only [qZ] <;> omega) | fail) only [push_cast, ↓qP, ↓reduceIte, seval]) | (refine qA ?_ ?_; (first | omega | (simp only [qL]; omega) | (simp only [qD] at *; omega))))
  refine CallV.of isCall_89 (take_one h1 41) ?_
  rintro _ w4 ⟨rfl, h4, k4⟩
  have k5 := k1.trans k4
  have hbr4 := k4.Blk hbr1 (by omega)
  have hbq4 := k4.Blk hbq (by omega)
  have hre4 := hre.Kp (D' := fun b => r < b ∧ b < w4.heap.size) k4 (fun b hb e => by have := hb.1; omega) (fun b hb => ⟨hb.1, Nat.lt_of_lt_of_le hb.2 k4.size⟩)
  clear h1 k1 k4 hbr1 hbq hre
  have z1 : (s1.f == 0) = true := by rw [hf1]; rfl
  rcases Nat.lt_or_ge s1.i l.length with hi2 | hi2
  case inr =>
    have hh : hasAt l s1.i 41 = false := by unfold hasAt; rw [decide_eq_false (by omega)]; rfl
    rw [hh] at h4 ⊢
    rw [z1, decide_eq_true (by omega : (s1.i : Int) ≥ (l.length : Int))]
    refine Sm.out ?_
    repeat (first | refine qS ?_ | refine qB ?_ | refine qT rfl ?_ | refine qF rfl ?_ | ((first | refine qR rfl ?_ | refine qK ?_ | refine qE ?_ | refine qW ?_ | refine qM ?_); try simp -dsimp (maxSteps := 2000000) (disch := first | omega | (simp only [qZ] <;> omega) | fail) only [push_cast, ↓qP, ↓reduceIte, seval]) | (refine qA ?_ ?_; (first | omega | (simp only [qL]; omega) | (simp only [qD] at *; omega))))
    exact Pan.mk (.inr ⟨_, _, rfl, fail_f ({ s1 with d := s1.d - 1 } : S3) (k := 1) (by decide), 1, rfl, by decide, by decide, k5⟩)
  have hh : hasAt l s1.i 41 = true := by rw [hasAt_eq _ hi2, hend hi2]; rfl
  rw [hh] at h4 ⊢
  have h4 : Rd w4 a l (s1.i + 1) s1.d := h4
  rw [z1, decide_eq_false (by omega : ¬ (s1.i : Int) ≥ (l.length : Int))]
  have hb := h4.blk.rdc
  have hz := h4.blk.fz
  have hlt4 := h4.lt
  have hltr := hbr4.lt
  have hrne : r ≠ a := by omega
  have hqne : q ≠ a := by omega
  have h5 : Rd (w4.setCell ⟨a, 1, none⟩ (.int .i64 (s1.d - 1))) a l (s1.i + 1) (s1.d - 1) := h4.blk.set 1 _
  have hbr5 : Blk (w4.setCell ⟨a, 1, none⟩ (.int .i64 (s1.d - 1))) r 33 zRe := hbr4.far (p := ⟨a, 1, none⟩) hrne _
  have hbq5 : Blk (w4.setCell ⟨a, 1, none⟩ (.int .i64 (s1.d - 1))) q 33 [.string (B o), .string (B se), .slice A1 c1' c2, .int .i64 lo1, .int .i64 hi1'] := hbq4.far (p := ⟨a, 1, none⟩) hqne _
  have k6 : Kp (· = a) w (w4.setCell ⟨a, 1, none⟩ (.int .i64 (s1.d - 1))) := k5.setCell (fun _ => rfl) _
  have k7 : Kp (· = a) w4 (w4.setCell ⟨a, 1, none⟩ (.int .i64 (s1.d - 1))) := (Kp.refl (· = a) w4).setCell (fun _ => rfl) _
  have hre5 := hre4.Kp (D' := fun b => r < b ∧ b < (w4.setCell ⟨a, 1, none⟩ (.int .i64 (s1.d - 1))).heap.size) k7 (fun b hb e => by have := hb.1; omega) (fun b hb => ⟨hb.1, Nat.lt_of_lt_of_le hb.2 k7.size⟩)
  refine Sm.out ?_
  repeat (first | ((fail_if_success (first | refine qY (n := 8) ?_ | refine qV (n := 8) ?_)); refine qS ?_) | refine qB ?_ | refine qT rfl ?_ | refine qF rfl ?_ | ((first | refine qR rfl ?_ | refine qK ?_ | refine qE ?_ | refine qW ?_ | refine qM ?_); try simp -dsimp (maxSteps := 2000000) (disch := first | omega | (simp only [qZ] <;> omega) | fail) only [push_cast, ↓qP, ↓reduceIte, seval, hb, hz]) | (refine qA ?_ ?_; (first | omega | (simp only [qL]; omega) | (simp only [qD] at *; omega))))
  refine Wp.gen (A := fun W5 => Rd W5 a l (s1.i + 1) (s1.d - 1) ∧ Kp (· = a) w W5 ∧ Blk W5 r 33 zRe ∧ Blk W5 q 33 [.string (B o), .string (B se), .slice A1 c1' c2, .int .i64 lo1, .int .i64 hi1'] ∧ IsRe W5 (fun b => r < b ∧ b < W5.heap.size) t [.string (B o), .string (B se), .slice A1 c1' c2, .int .i64 lo1, .int .i64 hi1']) ⟨h5, k6, hbr5, hbq5, hre5⟩ ?_
  clear h4 h5 hbr5 hbr4 hbq4 hbq5 k5 k6 k7 hre4 hre5 hb hz hlt4 hltr
  rintro W5 ⟨h5, k5, hbr5, hbq5, hre5⟩
  have hrr := hbr5.rdc
  have hrz := hbr5.fz
  have hltr := hbr5.lt
  have hltq := hbq5.lt
  have hqq := hbq5.rdc
  subst hr
  repeat (first | refine qS ?_ | refine qB ?_ | refine qT rfl ?_ | refine qF rfl ?_ | ((first | refine qR rfl ?_ | refine qK ?_ | refine qE ?_ | refine qW ?_ | refine qM ?_); try simp -dsimp (maxSteps := 2000000) (disch := first | omega | (simp only [qZ] <;> omega) | fail) only [push_cast, ↓qP, ↓reduceIte, seval, hrr, hrz, hqq]) | (refine qA ?_ ?_; (first | omega | (simp only [qL]; omega) | (simp only [qD] at *; omega))))
  exact post_oe (w1 := W5) (s' := { s1 with i := s1.i + 1, d := s1.d - 1 }) (cs := [.string (B o), .string (B se), .slice A1 c1' c2, .int .i64 lo1, .int .i64 hi1']) h5 hbr5 k5 hlt rfl hf1 (by simp [upd, arg]) hre5 (fun b hb => hb)

theorem atom_any (k : Nat) (hl : l.length ≤ 1000000) (ha : a ≠ 1) (ih : EB l a k) : EA l a (k + 1) := by
  intro s w h hs hsf hi hM hex
  have hat : atom3 l (k + 1) s = if byteAt l s.i == 40 then atom3 l (k + 1) s else if byteAt l s.i == 46 then some (.node opSet allBytes [] 0 0, s.on) else if byteAt l s.i == 94 then some (.node opBol [] [] 0 0, s.on)
      else if byteAt l s.i == 36 then some (.node opEol [] [] 0 0, s.on) else if byteAt l s.i == 91 then bracket3 l s else if byteAt l s.i == 92 then some (.node opSet [(escape3 l s).1] [] 0 0, (escape3 l s).2) else some (.node opSet [byteAt l s.i] [] 0 0, s.on) := by
    by_cases c : byteAt l s.i == 40
    · rw [if_pos c]
    · rw [if_neg c]; simp only [atom3]; rw [if_neg c]
  have hlt := h.lt
  obtain ⟨r, hr⟩ : ∃ r, r = w.heap.size := ⟨_, rfl⟩
  have hb := (h.alloc (.cells zRe.toArray 33)).blk.rdc
  have hz := (h.alloc (.cells zRe.toArray 33)).blk.fz
  have hgg := getD_drop l s.i 0
  have hll : (l.drop s.i).length = l.length - s.i := by simp
  have hl0 : 0 < (l.drop s.i).length := by omega
  have hli : ((l.length : Int) - (s.i : Int)).toNat = l.length - s.i := by omega
  have hdd : (l.drop s.i).drop 1 = l.drop (s.i + 1) := by rw [List.drop_drop]
  have htt : ((l.drop (s.i + 1)).take (l.length - s.i - 1)) = l.drop (s.i + 1) := List.take_of_length_le (by simp; omega)
  refine enter (n := 45) (args := [.pointer (some ⟨a, 0, none⟩)]) Try.func98 rfl rfl rfl (by simp) ?_
  have hlta : a < (w.alloc (.cells zRe.toArray 33)).heap.size := (h.alloc _).lt
  refine Sm.out ?_
  repeat (first | ((fail_if_success (first | refine qY (n := 3) ?_ | refine qV (n := 3) ?_)); refine qS ?_) | refine qB ?_ | refine qT rfl ?_ | refine qF rfl ?_ | ((first | refine qR rfl ?_ | refine qK ?_ | refine qE ?_ | refine qW ?_ | refine qM ?_); try simp -dsimp (maxSteps := 2000000) (disch := first | omega | (simp only [qZ] <;> omega) | fail) only [push_cast, ↓qP, ↓reduceIte, seval, hb, hz, hgg, hll, hli, hdd, htt]) | (refine qA ?_ ?_; (first | omega | (simp only [qL]; omega) | (simp only [qD] at *; omega))))
  have hrd : Rd ((w.alloc (.cells zRe.toArray 33)).setCell ⟨a, 0, none⟩ (.string (B (l.drop (s.i + 1))))) a l (s.i + 1) s.d := (h.blk.alloc _).set 0 _
  have hk : Kp (· = a) w ((w.alloc (.cells zRe.toArray 33)).setCell ⟨a, 0, none⟩ (.string (B (l.drop (s.i + 1))))) := ((Kp.refl (· = a) w).alloc _).setCell (fun _ => rfl) _
  have hbr : Blk ((w.alloc (.cells zRe.toArray 33)).setCell ⟨a, 0, none⟩ (.string (B (l.drop (s.i + 1))))) r 33 zRe := by rw [hr]; exact (Blk.new w 33 zRe).far (p := ⟨a, 0, none⟩) (Nat.ne_of_gt hlt) _
  rw [← hr]
  refine Wp.gen (A := fun W => Rd W a l (s.i + 1) s.d ∧ Kp (· = a) w W ∧ Blk W r 33 zRe) ⟨hrd, hk, hbr⟩ ?_
  clear hrd hk hbr hb hz h hgg hll hl0 hli hdd htt hlta
  rintro W ⟨h, k0, hbr⟩
  have hMW := hM.kp k0 (fun e => ha e.symm)
  have hne : a ≠ r := by omega
  have e40 : (((byteAt l s.i).toNat : Int) == 40) = (byteAt l s.i == 40) := u8e _ 40
  have e91 : (((byteAt l s.i).toNat : Int) == 91) = (byteAt l s.i == 91) := u8e _ 91
  have e94 : (((byteAt l s.i).toNat : Int) == 94) = (byteAt l s.i == 94) := u8e _ 94
  have e36 : (((byteAt l s.i).toNat : Int) == 36) = (byteAt l s.i == 36) := u8e _ 36
  have e46 : (((byteAt l s.i).toNat : Int) == 46) = (byteAt l s.i == 46) := u8e _ 46
  have e92 : (((byteAt l s.i).toNat : Int) == 92) = (byteAt l s.i == 92) := u8e _ 92
  have hrr := hbr.rdc
  have hrz := hbr.fz
  have hltr := hbr.lt
  cases c40 : byteAt l s.i == 40 with
  | true =>
    rw [c40] at e40
    repeat (first | refine qS ?_ | refine qB ?_ | refine qT rfl ?_ | refine qF rfl ?_ | ((first | refine qR rfl ?_ | refine qK ?_ | refine qE ?_ | refine qW ?_ | refine qM ?_); try simp -dsimp (maxSteps := 2000000) (disch := first | omega | (simp only [qZ] <;> omega) | fail) only [push_cast, ↓qP, ↓reduceIte, seval, e40]) | (refine qA ?_ ?_; (first | omega | (simp only [qL]; omega) | (simp only [qD] at *; omega))))
    refine CallV.of isCall_103 (group_any k hl ha ih h hs hsf hi hMW (by simpa using c40) hex) ?_
    rintro e w3 (⟨t', s1', cs, he, hf1, rfl, hre, h3, k3⟩ | ⟨t', s1', he, hf1, x, rfl, x1, x2, k3⟩)
    case inr =>
      refine Sm.out ?_
      repeat (first | refine qS ?_ | refine qB ?_ | refine qT rfl ?_ | refine qF rfl ?_ | ((first | refine qR rfl ?_ | refine qK ?_ | refine qE ?_ | refine qW ?_ | refine qM ?_); try simp -dsimp (maxSteps := 2000000) (disch := first | omega | (simp only [qZ] <;> omega) | fail) only [push_cast, ↓qP, ↓reduceIte, seval]) | (refine qA ?_ ?_; (first | omega | (simp only [qL]; omega) | (simp only [qD] at *; omega))))
      exact Pan.mk (.inr ⟨t', s1', he, hf1, x, rfl, x1, x2, k0.trans k3⟩)
    obtain ⟨o, se, A1, c1, c2, lo1, hi1', rfl⟩ := hre.form
    have hb3 := k3.Blk hbr hne.symm
    clear hrr hrz
    have hltr := hb3.lt
    have hrr := hb3.rdc
    have hrz := hb3.fz
    have hN := hbr.lt
    subst hr
    refine Sm.out ?_
    repeat (first | refine qS ?_ | refine qB ?_ | refine qT rfl ?_ | refine qF rfl ?_ | ((first | refine qR rfl ?_ | refine qK ?_ | refine qE ?_ | refine qW ?_ | refine qM ?_); try simp -dsimp (maxSteps := 2000000) (disch := first | omega | (simp only [qZ] <;> omega) | fail) only [push_cast, ↓qP, ↓reduceIte, seval, hrr, hrz]) | (refine qA ?_ ?_; (first | omega | (simp only [qL]; omega) | (simp only [qD] at *; omega))))
    exact post_oe (w1 := w3) (cs := [.string (B o), .string (B se), .slice A1 c1 c2, .int .i64 lo1, .int .i64 hi1']) h3 hb3 (k0.trans k3) hlt he hf1 (by simp [upd, arg]) hre (fun b hb => ⟨by have := hb.1; omega, hb.2⟩)
  | false =>
  rw [c40] at e40 hat
  cases c91 : byteAt l s.i == 91 with
  | true =>
    have h91 : byteAt l s.i = 91 := by simpa using c91
    rw [if_neg (by simp), h91] at hat
    rw [c91] at e91
    have hat : atom3 l (k + 1) s = bracket3 l s := hat
    rw [hat]
    repeat (first | refine qS ?_ | refine qB ?_ | refine qT rfl ?_ | refine qF rfl ?_ | ((first | refine qR rfl ?_ | refine qK ?_ | refine qE ?_ | refine qW ?_ | refine qM ?_); try simp -dsimp (maxSteps := 2000000) (disch := first | omega | (simp only [qZ] <;> omega) | fail) only [push_cast, ↓qP, ↓reduceIte, seval, e40, e91]) | (refine qA ?_ ?_; (first | omega | (simp only [qL]; omega) | (simp only [qD] at *; omega))))
    refine CallV.of isCall_104 (brk_any h ha hMW hsf (by omega) hl) ?_
    rintro e w3 (⟨t', s1', cs, he, hf1, rfl, hre, h3, k3⟩ | ⟨t', s1', he, hf1, x, rfl, x1, x2, k3⟩)
    case inr =>
      refine Sm.out ?_
      repeat (first | refine qS ?_ | refine qB ?_ | refine qT rfl ?_ | refine qF rfl ?_ | ((first | refine qR rfl ?_ | refine qK ?_ | refine qE ?_ | refine qW ?_ | refine qM ?_); try simp -dsimp (maxSteps := 2000000) (disch := first | omega | (simp only [qZ] <;> omega) | fail) only [push_cast, ↓qP, ↓reduceIte, seval]) | (refine qA ?_ ?_; (first | omega | (simp only [qL]; omega) | (simp only [qD] at *; omega))))
      exact Pan.mk (.inr ⟨t', s1', he, hf1, x, rfl, x1, x2, k0.trans k3⟩)
    obtain ⟨o, se, A1, c1, c2, lo1, hi1', rfl⟩ := hre.form
    have hb3 := k3.Blk hbr hne.symm
    clear hrr hrz
    have hltr := hb3.lt
    have hrr := hb3.rdc
    have hrz := hb3.fz
    have hN := hbr.lt
    subst hr
    refine Sm.out ?_
    repeat (first | refine qS ?_ | refine qB ?_ | refine qT rfl ?_ | refine qF rfl ?_ | ((first | refine qR rfl ?_ | refine qK ?_ | refine qE ?_ | refine qW ?_ | refine qM ?_); try simp -dsimp (maxSteps := 2000000) (disch := first | omega | (simp only [qZ] <;> omega) | fail) only [push_cast, ↓qP, ↓reduceIte, seval, hrr, hrz]) | (refine qA ?_ ?_; (first | omega | (simp only [qL]; omega) | (simp only [qD] at *; omega))))
    exact post_oe (w1 := w3) (cs := [.string (B o), .string (B se), .slice A1 c1 c2, .int .i64 lo1, .int .i64 hi1']) h3 hb3 (k0.trans k3) hlt he hf1 (by simp [upd, arg]) hre (fun b hb => ⟨by have := hb.1; omega, hb.2⟩)
  | false =>
  rw [c91] at e91 hat
  cases c94 : byteAt l s.i == 94 with
  | true =>
    have h94 : byteAt l s.i = 94 := by simpa using c94
    rw [if_neg (by simp), h94] at hat
    rw [c94] at e94
    have hat : atom3 l (k + 1) s = some (.node opBol [] [] 0 0, s.on) := hat
    rw [hat]
    subst hr
    repeat (first | refine qS ?_ | refine qB ?_ | refine qT rfl ?_ | refine qF rfl ?_ | ((first | refine qR rfl ?_ | refine qK ?_ | refine qE ?_ | refine qW ?_ | refine qM ?_); try simp -dsimp (maxSteps := 2000000) (disch := first | omega | (simp only [qZ] <;> omega) | fail) only [push_cast, ↓qP, ↓reduceIte, seval, e40, e91, e94, hrr, hrz]) | (refine qA ?_ ?_; (first | omega | (simp only [qL]; omega) | (simp only [qD] at *; omega))))
    exact post_oe (w1 := W) (s' := s.on) (cs := [.string (B opBol), .string (B []), .slice none 0 0, .int .i64 0, .int .i64 0]) h hbr k0 hlt rfl hsf (by simp [upd, arg]) (set_is _ (fun _ => False) _ _) (fun b h => h.elim)
  | false =>
  rw [c94] at e94 hat
  cases c36 : byteAt l s.i == 36 with
  | true =>
    have h36 : byteAt l s.i = 36 := by simpa using c36
    rw [if_neg (by simp), h36] at hat
    rw [c36] at e36
    have hat : atom3 l (k + 1) s = some (.node opEol [] [] 0 0, s.on) := hat
    rw [hat]
    subst hr
    repeat (first | refine qS ?_ | refine qB ?_ | refine qT rfl ?_ | refine qF rfl ?_ | ((first | refine qR rfl ?_ | refine qK ?_ | refine qE ?_ | refine qW ?_ | refine qM ?_); try simp -dsimp (maxSteps := 2000000) (disch := first | omega | (simp only [qZ] <;> omega) | fail) only [push_cast, ↓qP, ↓reduceIte, seval, e40, e91, e94, e36, hrr, hrz]) | (refine qA ?_ ?_; (first | omega | (simp only [qL]; omega) | (simp only [qD] at *; omega))))
    exact post_oe (w1 := W) (s' := s.on) (cs := [.string (B opEol), .string (B []), .slice none 0 0, .int .i64 0, .int .i64 0]) h hbr k0 hlt rfl hsf (by simp [upd, arg]) (set_is _ (fun _ => False) _ _) (fun b h => h.elim)
  | false =>
  rw [c36] at e36 hat
  cases c46 : byteAt l s.i == 46 with
  | true =>
    have h46 : byteAt l s.i = 46 := by simpa using c46
    rw [if_neg (by simp), h46] at hat
    rw [c46] at e46
    have hat : atom3 l (k + 1) s = some (.node opSet allBytes [] 0 0, s.on) := hat
    rw [hat]
    have hnb : Blk (W.alloc (.cells (List.replicate 256 (Value.bool false)).toArray 149)) W.heap.size 149 (bools noSet) := by
      have := Blk.new W 149 (List.replicate 256 (Value.bool false))
      rw [bools_noSet]
      simpa using this
    repeat (first | refine qS ?_ | refine qB ?_ | refine qT rfl ?_ | refine qF rfl ?_ | ((first | refine qR rfl ?_ | refine qK ?_ | refine qE ?_ | refine qW ?_ | refine qM ?_); try simp -dsimp (maxSteps := 2000000) (disch := first | omega | (simp only [qZ] <;> omega) | fail) only [push_cast, ↓qP, ↓reduceIte, seval, e40, e91, e94, e36, e46]) | (refine qA ?_ ?_; (first | omega | (simp only [qL]; omega) | (simp only [qD] at *; omega))))
    refine CallV.of isCall_105 (text_any hnb rfl false) ?_
    rintro _ w3 ⟨rfl, k3⟩
    have k4 : Kp (fun _ => False) W w3 := ((Kp.refl _ W).alloc _).trans k3
    rw [show (!false) = true from rfl, bytesOf_all]
    have hb3 := k4.Blk hbr id
    have h3 := h.keep k4 id
    clear hrr hrz
    have hltr := hb3.lt
    have hrr := hb3.rdc
    have hrz := hb3.fz
    subst hr
    refine Sm.out ?_
    repeat (first | refine qS ?_ | refine qB ?_ | refine qT rfl ?_ | refine qF rfl ?_ | ((first | refine qR rfl ?_ | refine qK ?_ | refine qE ?_ | refine qW ?_ | refine qM ?_); try simp -dsimp (maxSteps := 2000000) (disch := first | omega | (simp only [qZ] <;> omega) | fail) only [push_cast, ↓qP, ↓reduceIte, seval, hrr, hrz]) | (refine qA ?_ ?_; (first | omega | (simp only [qL]; omega) | (simp only [qD] at *; omega))))
    exact post_oe (w1 := w3) (s' := s.on) (cs := [.string (B opSet), .string (B allBytes), .slice none 0 0, .int .i64 0, .int .i64 0]) h3 hb3 (k0.trans (k4.mono fun _ _ h => h.elim)) hlt rfl hsf (by simp [upd, arg]) (set_is _ (fun _ => False) _ _) (fun b h => h.elim)
  | false =>
  rw [c46] at e46 hat
  -- a byte
  cases c92 : byteAt l s.i == 92 with
  | true =>
    rw [c92] at e92 hat
    have hat : atom3 l (k + 1) s = some (.node opSet [(escape3 l s).1] [] 0 0, (escape3 l s).2) := hat
    rw [hat]
    repeat (first | refine qS ?_ | refine qB ?_ | refine qT rfl ?_ | refine qF rfl ?_ | ((first | refine qR rfl ?_ | refine qK ?_ | refine qE ?_ | refine qW ?_ | refine qM ?_); try simp -dsimp (maxSteps := 2000000) (disch := first | omega | (simp only [qZ] <;> omega) | fail) only [push_cast, ↓qP, ↓reduceIte, seval, e40, e91, e94, e36, e46, e92]) | (refine qA ?_ ?_; (first | omega | (simp only [qL]; omega) | (simp only [qD] at *; omega))))
    refine CallV.of isCall_106 (escaped_any h hsf rfl (by omega) hl) ?_
    have hde : (escape3 l s).2.d = s.d := (escape3_facts l s hi).2.2
    rintro e w3 (⟨q1, rfl, h3, k3⟩ | ⟨q1, x, rfl, x1, x2, k3⟩)
    case inr =>
      refine Sm.out ?_
      repeat (first | refine qS ?_ | refine qB ?_ | refine qT rfl ?_ | refine qF rfl ?_ | ((first | refine qR rfl ?_ | refine qK ?_ | refine qE ?_ | refine qW ?_ | refine qM ?_); try simp -dsimp (maxSteps := 2000000) (disch := first | omega | (simp only [qZ] <;> omega) | fail) only [push_cast, ↓qP, ↓reduceIte, seval]) | (refine qA ?_ ?_; (first | omega | (simp only [qL]; omega) | (simp only [qD] at *; omega))))
      exact Pan.mk (.inr ⟨_, _, rfl, q1, x, rfl, x1, x2, k0.trans k3⟩)
    rw [← hde] at h3
    have hb3 := k3.Blk hbr hne.symm
    clear hrr hrz
    have hltr := hb3.lt
    have hrr := hb3.rdc
    have hrz := hb3.fz
    subst hr
    refine Sm.out ?_
    repeat (first | refine qS ?_ | refine qB ?_ | refine qT rfl ?_ | refine qF rfl ?_ | ((first | refine qR rfl ?_ | refine qK ?_ | refine qE ?_ | refine qW ?_ | refine qM ?_); try simp -dsimp (maxSteps := 2000000) (disch := first | omega | (simp only [qZ] <;> omega) | fail) only [push_cast, ↓qP, ↓reduceIte, seval, by8]) | (refine qA ?_ ?_; (first | omega | (simp only [qL]; omega) | (simp only [qD] at *; omega))))
    refine V_str 63 9 _ rfl se_63 ik_5 isStr_9 [(escape3 l s).1] rfl rfl (.inr ⟨w3.heap.size, 0, rfl, fun j hj => ?_⟩) ?_
    · obtain rfl : j = 0 := by simpa using hj
      exact (Blk.new w3 5 [by8 (escape3 l s).1]).rdc 0
    refine Sm.out ?_
    repeat (first | refine qS ?_ | refine qB ?_ | refine qT rfl ?_ | refine qF rfl ?_ | ((first | refine qR rfl ?_ | refine qK ?_ | refine qE ?_ | refine qW ?_ | refine qM ?_); try simp -dsimp (maxSteps := 2000000) (disch := first | omega | (simp only [qZ] <;> omega) | fail) only [push_cast, ↓qP, ↓reduceIte, seval, hrr, hrz]) | (refine qA ?_ ?_; (first | omega | (simp only [qL]; omega) | (simp only [qD] at *; omega))))
    exact post_oe (w1 := w3.alloc (.cells #[.int .u8 ((escape3 l s).1.toNat : Int)] 5)) (s' := (escape3 l s).2) (cs := [.string (B opSet), .string (B [(escape3 l s).1]), .slice none 0 0, .int .i64 0, .int .i64 0]) (h3.alloc _) (hb3.alloc _) ((k0.trans k3).alloc _) hlt rfl q1 (by simp [upd, arg]) (set_is _ (fun _ => False) _ _) (fun b h => h.elim)
  | false =>
    rw [c92] at e92 hat
    have hat : atom3 l (k + 1) s = some (.node opSet [byteAt l s.i] [] 0 0, s.on) := hat
    rw [hat]
    subst hr
    repeat (first | refine qS ?_ | refine qB ?_ | refine qT rfl ?_ | refine qF rfl ?_ | ((first | refine qR rfl ?_ | refine qK ?_ | refine qE ?_ | refine qW ?_ | refine qM ?_); try simp -dsimp (maxSteps := 2000000) (disch := first | omega | (simp only [qZ] <;> omega) | fail) only [push_cast, ↓qP, ↓reduceIte, seval, e40, e91, e94, e36, e46, e92]) | (refine qA ?_ ?_; (first | omega | (simp only [qL]; omega) | (simp only [qD] at *; omega))))
    refine V_str 63 9 _ rfl se_63 ik_5 isStr_9 [byteAt l s.i] rfl rfl (.inr ⟨W.heap.size, 0, rfl, fun j hj => ?_⟩) ?_
    · obtain rfl : j = 0 := by simpa using hj
      exact (Blk.new W 5 [by8 (byteAt l s.i)]).rdc 0
    refine Sm.out ?_
    repeat (first | refine qS ?_ | refine qB ?_ | refine qT rfl ?_ | refine qF rfl ?_ | ((first | refine qR rfl ?_ | refine qK ?_ | refine qE ?_ | refine qW ?_ | refine qM ?_); try simp -dsimp (maxSteps := 2000000) (disch := first | omega | (simp only [qZ] <;> omega) | fail) only [push_cast, ↓qP, ↓reduceIte, seval, hrr, hrz]) | (refine qA ?_ ?_; (first | omega | (simp only [qL]; omega) | (simp only [qD] at *; omega))))
    exact post_oe (w1 := W.alloc (.cells #[.int .u8 ((byteAt l s.i).toNat : Int)] 5)) (s' := s.on) (cs := [.string (B opSet), .string (B [byteAt l s.i]), .slice none 0 0, .int .i64 0, .int .i64 0]) (h.alloc _) (hbr.alloc _) (k0.alloc _) hlt rfl hsf (by simp [upd, arg]) (set_is _ (fun _ => False) _ _) (fun b h => h.elim)

/-- All of them. -/
theorem ere_all (hl : l.length ≤ 1000000) (ha : a ≠ 1) : ∀ k, EA l a k ∧ EP l a k ∧ EB l a k := by
  intro k
  induction k using Nat.strongRecOn with
  | _ k ih =>
    refine ⟨?_, pieces_any k hl ha fun j hj => (ih j hj).1, branches_any k hl ha fun j hj => (ih j hj).2.1⟩
    cases k with
    | zero => intro s w _ _ _ _ _ hex; obtain ⟨r, hr⟩ := hex; simp [atom3] at hr
    | succ k => exact atom_any k hl ha (ih k (by omega)).2.2
end
end Go.Proofs.Ytddichibegppjaa

/- The program's size of a tree. -/
namespace Go.Proofs.Ytddichibegppjaa
open Go Go.VC Go.RowKit

def sumS (ks : List Re) : Int := (ks.map size3).sum
theorem sumS_snoc (ks : List Re) (k : Re) : sumS (ks ++ [k]) = sumS ks + size3 k := by simp [sumS]
theorem sumS_bound {ks : List Re} (hk : ∀ k ∈ ks, 0 ≤ size3 k ∧ size3 k ≤ 2001) : 0 ≤ sumS ks ∧ sumS ks ≤ 2001 * ks.length := by
  induction ks with
  | nil => simp [sumS]
  | cons k ks ih =>
    have h1 := hk k (by simp)
    have h2 := ih fun k h => hk k (by simp [h])
    simp only [sumS, List.map_cons, List.sum_cons, List.length_cons] at h2 ⊢
    omega
theorem sizes3_tot {ks : List Re} (hk : ∀ k ∈ ks, 0 ≤ size3 k ∧ size3 k ≤ 2001) : ∀ n, 0 ≤ n → n ≤ 2001 → sizes3 ks n = min (n + sumS ks) 2001 := by
  induction ks with
  | nil => intro n h1 h2; simp only [sizes3, sumS, List.map_nil, List.sum_nil]; omega
  | cons k ks ih =>
    intro n h1 h2
    have h3 := hk k (by simp)
    have h4 := sumS_bound (ks := ks) fun k h => hk k (by simp [h])
    rw [sizes3, ih (fun k h => hk k (by simp [h])) _ (by omega) (by omega)]
    simp only [sumS, List.map_cons, List.sum_cons] at h4 ⊢
    omega

section
variable {w : World} {D : Nat → Prop}
theorem sizeE_any : ∀ e : Re, Good e → wt e ≤ 1000000000 → ∀ (w : World) (cs : List Value), IsRe w D e cs → Calls Try.prog 82 #[.agg cs.toArray] w fun e' w' => e' = .returned (.int .i64 (size3 e)) ∧ Kp (fun _ => False) w w' := by
  refine Re.ind fun op set kids lo hi ih hg hwt w cs h => ?_
  obtain ⟨A, c, rfl⟩ := h.cells
  simp only [wt] at hwt
  have hkl := wts_len kids
  have hgb := hg.bounds
  have hgk := hg.kids
  have hks : ∀ k ∈ kids, 0 ≤ size3 k ∧ size3 k ≤ 2001 := fun k hk => size3_bound _ (Goods_mem hgk hk)
  have hsum := sizes3_tot hks 0 (by omega) (by omega)
  have hsb := sumS_bound hks
  rw [Int.zero_add] at hsum
  refine enter (n := 44) (args := [.agg #[.string (B op), .string (B set), .slice A kids.length c, .int .i64 lo, .int .i64 hi]]) Try.func82 rfl rfl rfl (by simp) ?_
  refine Wp.seq (Wp.region rfl ?_)
  simp -dsimp (maxSteps := 2000000) (disch := first | omega | (simp only [qZ] <;> omega) | fail) only [push_cast, ↓qP, ↓reduceIte, seval]
  refine Wp.gen (A := fun W => Kp (fun _ => False) w W ∧ Blk W w.heap.size 33 [.string (B op), .string (B set), .slice A kids.length c, .int .i64 lo, .int .i64 hi]) ⟨(Kp.refl _ w).alloc _, Blk.new _ _ _⟩ ?_
  rintro w1 ⟨k1, hb1⟩
  obtain ⟨q, hq⟩ : ∃ q, q = w.heap.size := ⟨_, rfl⟩
  rw [← hq] at hb1 ⊢
  refine Sm.out ?_
  repeat (first | ((fail_if_success (first | refine qY (n := 2) ?_ | refine qV (n := 2) ?_)); refine qS ?_) | refine qB ?_ | refine qT rfl ?_ | refine qF rfl ?_ | ((first | refine qR rfl ?_ | refine qK ?_ | refine qE ?_ | refine qW ?_ | refine qM ?_); try simp -dsimp (maxSteps := 2000000) (disch := first | omega | (simp only [qZ] <;> omega) | fail) only [push_cast, ↓qP, ↓reduceIte, seval]) | (refine qA ?_ ?_; (first | omega | (simp only [qL]; omega) | (simp only [qD] at *; omega))))
  refine Wp.cut (fun F W => F 1 = .pointer (some ⟨q, 0, none⟩) ∧ F 3 = .int .i64 (sumS kids) ∧ Kp (fun _ => False) w W ∧ Blk W q 33 [.string (B op), .string (B set), .slice A kids.length c, .int .i64 lo, .int .i64 hi]) ?_ ?_
  · have hltq := hb1.lt
    repeat (first | refine qS ?_ | refine qB ?_ | refine qT rfl ?_ | refine qF rfl ?_ | ((first | refine qR rfl ?_ | refine qK ?_ | refine qE ?_ | refine qW ?_ | refine qM ?_); try simp -dsimp (maxSteps := 2000000) (disch := first | omega | (simp only [qZ] <;> omega) | fail) only [push_cast, ↓qP, ↓reduceIte, seval, hb1.rdc]) | (refine qA ?_ ?_; (first | omega | (simp only [qL]; omega) | (simp only [qD] at *; omega))))
    refine Wp.loop (α := Nat) (fun j F W => j ≤ kids.length ∧ F 1 = .pointer (some ⟨q, 0, none⟩) ∧ F 3 = .int .i64 (sumS (kids.take j)) ∧ F 8 = .slice A kids.length c ∧ F 9 = .int .i64 (kids.length : Int) ∧ F 10 = .int .i64 j ∧ Kp (fun _ => False) w W ∧ Blk W q 33 [.string (B op), .string (B set), .slice A kids.length c, .int .i64 lo, .int .i64 hi]) (fun j => kids.length - j) 0
      ⟨Nat.zero_le _, by simp [upd], by simp [upd, sumS], by simp [upd], by simp [upd], by simp [upd], k1, hb1⟩ ?_
    clear k1 hb1 hltq
    rintro j F W ⟨hj, f1, f3, f8, f9, f10, k1, hb1⟩
    have hltp := hb1.lt
    rcases Nat.lt_or_ge j kids.length with hlt | hge
    · have c1 : decide ((j : Int) < (kids.length : Int)) = true := decide_eq_true (by omega)
      have hget : kids[j]? = some kids[j] := List.getElem?_eq_getElem hlt
      obtain ⟨b, o, d0, d1, A1, m1, d2, lo1, hi1, rfl, hbl, hD, q0, q1, q2, q3, q4, hre, _⟩ := h.kid k1 hget
      have hmem : kids[j] ∈ kids := List.getElem_mem hlt
      have hgj := Goods_mem hgk hmem
      have hwj := wts_mem hmem
      have hbd := size3_bound _ hgj
      have hbt := sumS_bound (ks := kids.take j) (fun k hk => hks k (List.mem_of_mem_take hk))
      have hsn : sumS (kids.take (j + 1)) = sumS (kids.take j) + size3 kids[j] := by rw [List.take_succ_eq_append_getElem hlt, sumS_snoc]
      have hbl2 : (kids.take j).length = j := by simp; omega
      rw [hbl2] at hbt
      repeat (first | refine qS ?_ | refine qB ?_ | refine qT rfl ?_ | refine qF rfl ?_ | ((first | refine qR rfl ?_ | refine qK ?_ | refine qE ?_ | refine qW ?_ | refine qM ?_); try simp -dsimp (maxSteps := 2000000) (disch := first | omega | (simp only [qZ] <;> omega) | fail) only [push_cast, ↓qP, ↓reduceIte, seval, f1, f3, f8, f9, f10, c1, q0, q1, q2, q3, q4]) | (refine qA ?_ ?_; (first | omega | (simp only [qL]; omega) | (simp only [qD] at *; omega))))
      have hkk : Kp (fun _ => False) W ((W.alloc (.cells zRe.toArray 33)).setCells W.heap.size 0 [.string (B d0), .string (B d1), .slice A1 m1 d2, .int .i64 lo1, .int .i64 hi1]) := ((Kp.refl (fun _ => False) W).alloc _).setCells (fun h => absurd h (Nat.lt_irrefl _)) [.string (B d0), .string (B d1), .slice A1 m1 d2, .int .i64 lo1, .int .i64 hi1] 0
      refine CallV.gen (A := fun W' => Kp (fun _ => False) W W') hkk ?_
      clear hkk q0 q1 q2 q3 q4
      intro W2 k2
      refine CallV.of isCall_82 (ih _ hmem hgj (by omega) W2 _ (hre.Kp (D' := D) k2 (fun _ _ => id) (fun _ h => h))) ?_
      rintro _ W3 ⟨rfl, k3⟩
      refine Sm.out ?_
      repeat (first | refine qS ?_ | refine qB ?_ | refine qT rfl ?_ | refine qF rfl ?_ | ((first | refine qR rfl ?_ | refine qK ?_ | refine qE ?_ | refine qW ?_ | refine qM ?_); try simp -dsimp (maxSteps := 2000000) (disch := first | omega | (simp only [qZ] <;> omega) | fail) only [push_cast, ↓qP, ↓reduceIte, seval, f3, f10]) | (refine qA ?_ ?_; (first | omega | (simp only [qL]; omega) | (simp only [qD] at *; omega))))
      exact Again.mk (j + 1) ⟨by omega, by simp [upd, f1], by simp [upd, hsn], by simp [upd, f8], by simp [upd, f9], by simp [upd], (k1.trans k2).trans k3, k3.Blk (k2.Blk hb1 id) id⟩ (by omega)
    · obtain rfl : j = kids.length := by omega
      have c1 : decide ((kids.length : Int) < (kids.length : Int)) = false := decide_eq_false (by omega)
      rw [List.take_length] at f3
      repeat (first | refine qS ?_ | refine qB ?_ | refine qT rfl ?_ | refine qF rfl ?_ | ((first | refine qR rfl ?_ | refine qK ?_ | refine qE ?_ | refine qW ?_ | refine qM ?_); try simp -dsimp (maxSteps := 2000000) (disch := first | omega | (simp only [qZ] <;> omega) | fail) only [push_cast, ↓qP, ↓reduceIte, seval, f9, f10, c1]) | (refine qA ?_ ?_; (first | omega | (simp only [qL]; omega) | (simp only [qD] at *; omega))))
      exact Mid.mk ⟨by simp [upd, f1], by simp [upd, f3], k1, hb1⟩
  clear k1 hb1
  rintro F w2 ⟨f1, f3, k1, hb1⟩
  have hltp := hb1.lt
  have e1 : (op == [99, 97, 116]) = decide (op = opCat) := list_eqb _ _
  have e4 : (op == [97, 108, 116]) = decide (op = opAlt) := list_eqb _ _
  have e5 : (op == [114, 101, 112]) = decide (op = opRep) := list_eqb _ _
  simp only [size3]
  rw [hsum]
  generalize sumS kids = n at *
  obtain ⟨n1, n2, n3, n4, n5, n6, n7, n8, n9, n10, n11, n12, n13, n14, n15⟩ := op_ne
  by_cases c1 : op = opCat
  · rw [decide_eq_true c1] at e1
    subst c1
    rw [if_neg n3.symm, if_neg n7.symm, if_neg n10.symm, if_neg n13, if_neg n14, show min (min n 2001) 2001 = min n 2001 by omega]
    repeat (first | refine qS ?_ | refine qB ?_ | refine qT rfl ?_ | refine qF rfl ?_ | ((first | refine qR rfl ?_ | refine qK ?_ | refine qE ?_ | refine qW ?_ | refine qM ?_); try simp -dsimp (maxSteps := 2000000) (disch := first | omega | (simp only [qZ] <;> omega) | fail) only [push_cast, ↓qP, ↓reduceIte, seval, f1, f3, hb1.rdc, e1]) | (refine qA ?_ ?_; (first | omega | (simp only [qL]; omega) | (simp only [qD] at *; omega))))
    exact Ret.mk ⟨rfl, k1⟩
  rw [decide_eq_false c1] at e1
  by_cases c4 : op = opAlt
  · rw [decide_eq_true c4] at e4
    subst c4
    rw [if_neg n4.symm, if_neg n8.symm, if_neg n11.symm, if_pos rfl]
    have hmm : min (min n 2001 + 1) 2001 = min (n + 1) 2001 := by omega
    rw [hmm]
    repeat (first | refine qS ?_ | refine qB ?_ | refine qT rfl ?_ | refine qF rfl ?_ | ((first | refine qR rfl ?_ | refine qK ?_ | refine qE ?_ | refine qW ?_ | refine qM ?_); try simp -dsimp (maxSteps := 2000000) (disch := first | omega | (simp only [qZ] <;> omega) | fail) only [push_cast, ↓qP, ↓reduceIte, seval, f1, f3, hb1.rdc, e1, e4]) | (refine qA ?_ ?_; (first | omega | (simp only [qL]; omega) | (simp only [qD] at *; omega))))
    exact Ret.mk ⟨rfl, k1⟩
  rw [decide_eq_false c4] at e4
  by_cases c5 : op = opRep
  · rw [decide_eq_true c5] at e5
    obtain ⟨b1, b2, b3, b4, b5, b6⟩ := hgb c5
    rw [b6] at hsb
    have hn : min n 2001 = n := by omega
    subst c5
    rw [if_neg n5.symm, if_neg n9.symm, if_neg n12.symm, if_neg (fun e => n15 e.symm), if_pos rfl, hn]
    clear hgb ih
    rcases Bool.eq_false_or_eq_true (decide (hi < 0)) with c6 | c6
    · have c6' : hi < 0 := by simpa using c6
      rw [if_pos c6']
      have hm1 : 0 ≤ n * (lo + 1) := Int.mul_nonneg hsb.1 (by omega)
      have hm2 : n * (lo + 1) ≤ 2001 * 256 := Int.mul_le_mul hsb.2 (by omega) (by omega) (by omega)
      repeat (first | refine qS ?_ | refine qB ?_ | refine qT rfl ?_ | refine qF rfl ?_ | ((first | refine qR rfl ?_ | refine qK ?_ | refine qE ?_ | refine qW ?_ | refine qM ?_); try simp -dsimp (maxSteps := 2000000) (disch := first | omega | (simp only [qZ] <;> omega) | fail) only [push_cast, ↓qP, ↓reduceIte, seval, f1, f3, hb1.rdc, e1, e4, e5, c6]) | (refine qA ?_ ?_; (first | omega | (simp only [qL]; omega) | (simp only [qD] at *; omega))))
      exact Ret.mk ⟨rfl, k1⟩
    · have c6' : ¬ hi < 0 := by simpa using c6
      rw [if_neg c6']
      have hm1 : 0 ≤ n * max 1 hi := Int.mul_nonneg hsb.1 (by omega)
      have hm2 : n * max 1 hi ≤ 2001 * 256 := Int.mul_le_mul hsb.2 (by omega) (by omega) (by omega)
      repeat (first | refine qS ?_ | refine qB ?_ | refine qT rfl ?_ | refine qF rfl ?_ | ((first | refine qR rfl ?_ | refine qK ?_ | refine qE ?_ | refine qW ?_ | refine qM ?_); try simp -dsimp (maxSteps := 2000000) (disch := first | omega | (simp only [qZ] <;> omega) | fail) only [push_cast, ↓qP, ↓reduceIte, seval, f1, f3, hb1.rdc, e1, e4, e5, c6]) | (refine qA ?_ ?_; (first | omega | (simp only [qL]; omega) | (simp only [qD] at *; omega))))
      exact Ret.mk ⟨rfl, k1⟩
  rw [decide_eq_false c5] at e5
  have hop : op = opSet ∨ op = opBol ∨ op = opEol := by
    simp only [Good] at hg
    rcases hg with ⟨h, _⟩ | ⟨h, _⟩ | ⟨h, _⟩ | ⟨h, _⟩ | ⟨h, _⟩ | ⟨h, _⟩
    · exact .inl h
    · exact .inr (.inl h)
    · exact .inr (.inr h)
    · exact absurd h c1
    · exact absurd h c4
    · exact absurd h c5
  have h1 : (if op = opSet then (1 : Int) else if op = opBol then 1 else if op = opEol then 1
    else if op = opAlt then min (min n 2001 + 1) 2001
    else if op = opRep then min (min n 2001 * (if hi < 0 then lo + 1 else max 1 hi) + 1) 2001
    else min (min n 2001) 2001) = 1 := by
    rcases hop with h | h | h
    · rw [if_pos h]
    · rw [if_neg (fun e => n1 (e.symm.trans h)), if_pos h]
    · rw [if_neg (fun e => n2 (e.symm.trans h)), if_neg (fun e => n6 (e.symm.trans h)), if_pos h]
  rw [h1]
  repeat (first | refine qS ?_ | refine qB ?_ | refine qT rfl ?_ | refine qF rfl ?_ | ((first | refine qR rfl ?_ | refine qK ?_ | refine qE ?_ | refine qW ?_ | refine qM ?_); try simp -dsimp (maxSteps := 2000000) (disch := first | omega | (simp only [qZ] <;> omega) | fail) only [push_cast, ↓qP, ↓reduceIte, seval, f1, f3, hb1.rdc, e1, e4, e5]) | (refine qA ?_ ?_; (first | omega | (simp only [qL]; omega) | (simp only [qD] at *; omega))))
  exact Ret.mk ⟨rfl, k1⟩
end
end Go.Proofs.Ytddichibegppjaa

/- The program's Parse: a closure that recovers. -/
namespace Go.Proofs.Ytddichibegppjaa
open Go Go.VC Go.RowKit

theorem wp_iff {P : Program} {n : Nat} {ds : List Deferred} {c : Code} {F : Fr} {w : World} {Q : Exit → Fr → World → Prop} (h : Wp P n ds c F w Q) : ∀ a, Rep n ds F a → c.wp P (fun e a' w' => ∃ F', Rep n ds F' a' ∧ Q e F' w') a w := by
  unfold Wp at h; exact h

theorem closure_of {c : Code} {F : Fr} {a : Act} {w : World} {u' : FrameMode} {c₀ c₁ : Frame} {cs : List Frame} {R : Ending → FrameMode → World → Prop}
    (h : Wp Try.prog 13 [] c F w fun e _ w' => e = .normal ∧ R (.returned (.tuple #[])) u' w') (hr : Rep 13 [] F a) (hc : c₁ = { c₀ with mode := u' }) : c.wpS Try.prog (bodyPostS Try.prog Try.f80 c₀ cs R) a (c₁ :: cs) w := by
  refine wpS_of_wp (Go.wp_mono (wp_iff h a hr) ?_)
  rintro e a' w' ⟨F', hr', he, hR⟩
  subst he
  exact ⟨hr'.defs, u', by rw [hc], .tuple #[], run_results hr' (rs := []) rfl rfl, hR⟩
theorem rep_self {n : Nat} {a : Act} (h1 : a.tmps.size = n) (h2 : a.defers = []) : Rep n [] (fun i => a.tmps.getD i undef) a := ⟨h1, h2, fun _ => rfl⟩
/-- The closure, where nothing panics. -/
theorem catch_idle (e c : Nat) (w : World) : CallsD Try.prog 80 #[.pointer (some ⟨e, 0, none⟩), .pointer (some ⟨c, 0, none⟩)] .returning w fun x u' w' => x = .returned (.tuple #[]) ∧ u' = .returning ∧ w' = w := by
  refine callsD_of_wpS Try.func80 rfl fun c₀ cs hu => ?_
  apply wpS_seq
  apply wpS_region
  simp [wpOpsS, go_sem, recoverD, hu, Exit.thenS]
  generalize ha : Act.mk _ _ = a
  have hF := rep_self (n := 13) (a := a) (by rw [← ha]; rfl) (by rw [← ha])
  have h0 : a.tmps.getD 0 undef = .pointer (some ⟨e, 0, none⟩) := by rw [← ha]; rfl
  have h1 : a.tmps.getD 1 undef = .pointer (some ⟨c, 0, none⟩) := by rw [← ha]; rfl
  have h5 : a.tmps.getD 5 undef = .nilIface := by rw [← ha]; rfl
  generalize hFF : (fun i => a.tmps.getD i undef) = F at hF
  have f0 : F 0 = a.tmps.getD 0 undef := by rw [← hFF]
  rw [h0] at f0
  have f1 : F 1 = a.tmps.getD 1 undef := by rw [← hFF]
  rw [h1] at f1
  have f5 : F 5 = a.tmps.getD 5 undef := by rw [← hFF]
  rw [h5] at f5
  clear hFF ha h0 h1 h5
  refine closure_of (u' := .returning) ?_ hF (by cases c₀; simp_all)
  repeat (first | refine qS ?_ | refine qB ?_ | refine qT rfl ?_ | refine qF rfl ?_ | ((first | refine qR rfl ?_ | refine qK ?_ | refine qE ?_ | refine qW ?_ | refine qM ?_); try simp -dsimp (maxSteps := 2000000) (disch := first | omega | (simp only [qZ] <;> omega) | fail) only [push_cast, ↓qP, ↓reduceIte, seval, f5]) | (refine qA ?_ ?_; (first | omega | (simp only [qL]; omega) | (simp only [qD] at *; omega))))
  refine OpV.of_run (v := .bool true) (w' := w) (by simp only [execOp, ev, f5]; kernel_rfl) ?_
  refine Sm.out ?_
  repeat (first | refine qS ?_ | refine qB ?_ | refine qT rfl ?_ | refine qF rfl ?_ | ((first | refine qR rfl ?_ | refine qK ?_ | refine qE ?_ | refine qW ?_ | refine qM ?_); try simp -dsimp (maxSteps := 2000000) (disch := first | omega | (simp only [qZ] <;> omega) | fail) only [push_cast, ↓qP, ↓reduceIte, seval, f5]) | (refine qA ?_ ?_; (first | omega | (simp only [qL]; omega) | (simp only [qD] at *; omega))))
/-- The closure, where a fault panics. -/
theorem catch_fault (e c : Nat) (k : Int) (w : World) (ce cc : List Value) (he : Blk w e 33 ce) (hc : Blk w c 3 cc) (hle : ce.length = 5) (hlc : cc.length = 1) (hne : e ≠ c) : CallsD Try.prog 80 #[.pointer (some ⟨e, 0, none⟩), .pointer (some ⟨c, 0, none⟩)] (.panicking (flt k)) w fun x u' w' => x = .returned (.tuple #[]) ∧ u' = .panicking [{ v := .iface 130 (.int .i64 k), recovered := true }] ∧ w' = (w.setCells e 0 zRe).setCell ⟨c, 0, none⟩ (.int .i64 k) := by
  refine callsD_of_wpS Try.func80 rfl fun c₀ cs hu => ?_
  apply wpS_seq
  apply wpS_region
  simp [wpOpsS, go_sem, recoverD, hu, Exit.thenS, flt]
  generalize ha : Act.mk _ _ = a
  have hF := rep_self (n := 13) (a := a) (by rw [← ha]; rfl) (by rw [← ha])
  have h0 : a.tmps.getD 0 undef = .pointer (some ⟨e, 0, none⟩) := by rw [← ha]; rfl
  have h1 : a.tmps.getD 1 undef = .pointer (some ⟨c, 0, none⟩) := by rw [← ha]; rfl
  have h5 : a.tmps.getD 5 undef = .iface 130 (.int .i64 k) := by rw [← ha]; rfl
  generalize hFF : (fun i => a.tmps.getD i undef) = F at hF
  have f0 : F 0 = a.tmps.getD 0 undef := by rw [← hFF]
  rw [h0] at f0
  have f1 : F 1 = a.tmps.getD 1 undef := by rw [← hFF]
  rw [h1] at f1
  have f5 : F 5 = a.tmps.getD 5 undef := by rw [← hFF]
  rw [h5] at f5
  clear hFF ha h0 h1 h5
  refine closure_of (u' := .panicking [{ v := .iface 130 (.int .i64 k), recovered := true }]) ?_ hF rfl
  repeat (first | refine qS ?_ | refine qB ?_ | refine qT rfl ?_ | refine qF rfl ?_ | ((first | refine qR rfl ?_ | refine qK ?_ | refine qE ?_ | refine qW ?_ | refine qM ?_); try simp -dsimp (maxSteps := 2000000) (disch := first | omega | (simp only [qZ] <;> omega) | fail) only [push_cast, ↓qP, ↓reduceIte, seval, f5]) | (refine qA ?_ ?_; (first | omega | (simp only [qL]; omega) | (simp only [qD] at *; omega))))
  refine OpV.of_run (v := .bool false) (w' := w) (by simp only [execOp, ev, f5]; kernel_rfl) ?_
  refine Sm.out ?_
  repeat (first | refine qS ?_ | refine qB ?_ | refine qT rfl ?_ | refine qF rfl ?_ | ((first | refine qR rfl ?_ | refine qK ?_ | refine qE ?_ | refine qW ?_ | refine qM ?_); try simp -dsimp (maxSteps := 2000000) (disch := first | omega | (simp only [qZ] <;> omega) | fail) only [push_cast, ↓qP, ↓reduceIte, seval, f5]) | (refine qA ?_ ?_; (first | omega | (simp only [qL]; omega) | (simp only [qD] at *; omega))))
  refine OpV.of_run (v := .tuple #[.int .i64 k, .bool true]) (w' := w) (by simp only [execOp, ev, upd, f5]; kernel_rfl) ?_
  obtain ⟨x0, x1, x2, x3, x4, rfl⟩ : ∃ x0 x1 x2 x3 x4, ce = [x0, x1, x2, x3, x4] := by
    match ce, hle with
    | [x0, x1, x2, x3, x4], _ => exact ⟨x0, x1, x2, x3, x4, rfl⟩
  obtain ⟨y, rfl⟩ : ∃ y, cc = [y] := by
    match cc, hlc with
    | [y], _ => exact ⟨y, rfl⟩
  have her := he.rdc
  have hez := he.fz
  have hcr := hc.rdc
  have hcz := hc.fz
  refine Sm.out ?_
  repeat (first | refine qS ?_ | refine qB ?_ | refine qT rfl ?_ | refine qF rfl ?_ | ((first | refine qR rfl ?_ | refine qK ?_ | refine qE ?_ | refine qW ?_ | refine qM ?_); try simp -dsimp (maxSteps := 2000000) (disch := first | omega | (simp only [qZ] <;> omega) | fail) only [push_cast, ↓qP, ↓reduceIte, seval, f5, f0, f1, her, hez, hcr, hcz]) | (refine qA ?_ ?_; (first | omega | (simp only [qL]; omega) | (simp only [qD] at *; omega))))
end Go.Proofs.Ytddichibegppjaa

/- The program's Parse. -/
namespace Go.Proofs.Ytddichibegppjaa
open Go Go.VC Go.RowKit

abbrev capE (p : Nat) : Array Value := #[.pointer (some ⟨p, 0, none⟩), .pointer (some ⟨p + 1, 0, none⟩)]
abbrev defE (p : Nat) : Deferred := { target := .fn (.func 80) (capE p), args := #[] }
theorem inv80 (p : Nat) (w : World) : (invoke (.fn (.func 80) (capE p)) #[]).run Try.prog w = .ok (.enter 80 (capE p)) w := by
  simp [invoke, go_sem]
theorem make80 {F : Fr} {p : Nat} (w : World) (o : Oper) (ho : o.op = .makeFunc (.func 80) #[] #[.tmp 2, .tmp 3]) (f2 : F 2 = .pointer (some ⟨p, 0, none⟩)) (f3 : F 3 = .pointer (some ⟨p + 1, 0, none⟩)) : (execOp (ev F) o).run Try.prog w = .ok (.value (.func (.func 80) #[] (capE p))) w := by
  have hmf : ∀ (fn : Fn) (first cap : Array Value) (w : World), (Instr.makeFunc fn first cap).run Try.prog w = .ok (.func fn first cap) w := fun _ _ _ _ => rfl
  simp [execOp, ho, ev, f2, f3, hmf, Result.andThen]
theorem defer80 {F : Fr} {p : Nat} (w : World) (o : Oper) (ho : o.op = .defer { callee := .value (.tmp 5), args := #[], argTypes := #[] }) (f5 : F 5 = .func (.func 80) #[] (capE p)) : (execOp (ev F) o).run Try.prog w = .ok (.defer (defE p)) w := by
  simp [execOp, ho, resolve, ev, f5, Deferred.ofValue, Result.andThen]

/-- What Parse's body leaves. -/
def QE (l : List UInt8) (p : Nat) (w : World) (e : Exit) (F' : Fr) (w' : World) : Prop :=
  F' 2 = .pointer (some ⟨p, 0, none⟩) ∧ F' 3 = .pointer (some ⟨p + 1, 0, none⟩) ∧ ∃ ce cc, Blk w' p 33 ce ∧ Blk w' (p + 1) 3 cc ∧ ce.length = 5 ∧ cc.length = 1 ∧ Kp (fun _ => False) w w' ∧
    ((e = .ret ∧ cc = [.int .i64 0] ∧ IsRe w' (fun b => w.heap.size ≤ b ∧ b < w'.heap.size) (parse3 l).1 ce ∧ (parse3 l).2 = 0) ∨ (∃ k : Int, e = .panic (flt k) ∧ 1 ≤ k ∧ (parse3 l).2 ≠ 0))
theorem ere_any (l : List UInt8) (hl : l.length ≤ 100000) (w : World) (hM : MaxL w) : Calls Try.prog 63 #[.string (B l)] w fun e w' => ∃ (cs : List Value) (f : Int), e = .returned (.tuple #[.agg cs.toArray, .int .i64 f]) ∧
    IsRe w' (fun b => w.heap.size ≤ b ∧ b < w'.heap.size) (parse3 l).1 cs ∧ Kp (fun _ => False) w w' ∧ (f = 0 ↔ (parse3 l).2 = 0) := by
  have h1w : 1 < w.heap.size := rdc_lt (b := 1) (i := 0) hM.choose_spec
  refine enterD (n := 22) (args := [.string (B l)]) Try.func63 rfl rfl (by simp) ?_
  intro a hr
  obtain ⟨p, hp⟩ : ∃ p, p = w.heap.size := ⟨_, rfl⟩
  refine wp_then (M := fun F' w' => F' 0 = .string (B l) ∧ F' 2 = .pointer (some ⟨p, 0, none⟩) ∧ F' 3 = .pointer (some ⟨p + 1, 0, none⟩) ∧ w' = (w.alloc (.cells zRe.toArray 33)).alloc (.cells #[.int .i64 0] 3)) ?_ hr ?_
  · rw [hp]
    repeat (first | refine qS ?_ | refine qB ?_ | refine qT rfl ?_ | refine qF rfl ?_ | ((first | refine qR rfl ?_ | refine qK ?_ | refine qE ?_ | refine qW ?_ | refine qM ?_); try simp -dsimp (maxSteps := 2000000) (disch := first | omega | (simp only [qZ] <;> omega) | fail) only [push_cast, ↓qP, ↓reduceIte, seval]) | (refine qA ?_ ?_; (first | omega | (simp only [qL]; omega) | (simp only [qD] at *; omega))))
  clear hr
  rintro F1 a1 w1 ⟨f0, f2, f3, hw1⟩ hr1
  refine wp_defer (t := 5) (v := .func (.func 80) #[] (capE p)) (d := defE p) hr1 rfl rfl rfl (by decide) rfl (make80 _ _ rfl f2 f3) (defer80 _ _ rfl rfl) ?_
  intro a2 hr2
  have hbe : Blk w1 p 33 zRe := by rw [hw1, hp]; exact (Blk.new w 33 zRe).alloc _
  have hbc : Blk w1 (p + 1) 3 [.int .i64 0] := by
    have := Blk.new (w.alloc (.cells zRe.toArray 33)) 3 [.int .i64 0]
    rw [hw1, hp]; simpa using this
  have k1 : Kp (fun _ => False) w w1 := by rw [hw1]; exact ((Kp.refl _ w).alloc _).alloc _
  have hsz1 : w1.heap.size = p + 2 := by rw [hw1, hp]; simp
  refine Go.wp_mono (wp_of (Q := QE l p w) ?_ hr2) ?_
  case refine_2 =>
    rintro e a3 w3 ⟨F3, hr3, g2, g3, ce, cc, be, bc, le, lc, k3, hcase⟩
    rcases hcase with ⟨rfl, rfl, hre, hz⟩ | ⟨k, rfl, hk1, hz⟩
    · show Leaves Try.prog Try.f63 a3.tmps _ a3.defers .returning w3
      rw [hr3.defs]
      have hrd := be.rdn
      rw [le] at hrd
      refine leaves_one (rs := [.cell 2 33, .cell 3 3]) hr3 (by simp) (inv80 p w3) (catch_idle p (p + 1) w3) rfl rfl (v := .tuple #[.agg ce.toArray, .int .i64 0]) ?_ ?_
      · have h1 : resV Try.prog w3 F3 (.cell 2 33) = some (.agg ce.toArray) := by simp only [resV, g2, tk_33, hrd, Option.map_some]
        have h2 : resV Try.prog w3 F3 (.cell 3 3) = some (.int .i64 0) := by simp only [resV, g3, tk_3]; rw [bc.rdc]; rfl
        simp [resVs, List.mapM_cons, h1, h2]
      · exact ⟨ce, 0, rfl, hre, k3, by simp [hz]⟩
    · show Leaves Try.prog Try.f63 a3.tmps _ a3.defers (.panicking (flt k)) w3
      rw [hr3.defs]
      have be2 : Blk ((w3.setCells p 0 zRe).setCell ⟨p + 1, 0, none⟩ (.int .i64 k)) p 33 zRe := (be.setAll (vs := zRe) (by rw [le]; rfl)).far (p := ⟨p + 1, 0, none⟩) (by show p ≠ p + 1; omega) _
      have bc2 : Blk ((w3.setCells p 0 zRe).setCell ⟨p + 1, 0, none⟩ (.int .i64 k)) (p + 1) 3 [.int .i64 k] := by
        have := (Blk.farCells (b := p) (by omega) zRe 0 w3 bc).set 0 (.int .i64 k)
        match cc, lc with
        | [y], _ => exact this
      have hrd := be2.rdn
      refine leaves_one (rs := [.cell 2 33, .cell 3 3]) hr3 (by simp) (inv80 p w3) (catch_fault p (p + 1) k w3 ce cc be bc le lc (by omega)) rfl rfl (v := .tuple #[.agg zRe.toArray, .int .i64 k]) ?_ ?_
      · have h1 : resV Try.prog ((w3.setCells p 0 zRe).setCell ⟨p + 1, 0, none⟩ (.int .i64 k)) F3 (.cell 2 33) = some (.agg zRe.toArray) := by
          simp only [resV, g2, tk_33]
          rw [show rdn ((w3.setCells p 0 zRe).setCell ⟨p + 1, 0, none⟩ (.int .i64 k)) p 0 5 = some zRe from hrd]; rfl
        have h2 : resV Try.prog ((w3.setCells p 0 zRe).setCell ⟨p + 1, 0, none⟩ (.int .i64 k)) F3 (.cell 3 3) = some (.int .i64 k) := by simp only [resV, g3, tk_3]; rw [bc2.rdc]; rfl
        simp [resVs, List.mapM_cons, h1, h2]
      · refine ⟨zRe, k, rfl, by rw [parse3_zero l hz]; exact zRe_is _ _, ?_, ?_⟩
        · exact (Kp.setCells k3 (fun h => by omega) zRe 0).setCell (fun h => by have h : p + 1 < w.heap.size := h; omega) _
        · constructor
          · intro h; omega
          · intro h; exact absurd h hz
  case refine_1 =>
    obtain ⟨⟨t, s1⟩, hb⟩ := start_some l
    have hpz : parse3 l = if s1.f ≠ 0 then (Re.zero, s1.f) else if s1.i < l.length then (Re.zero, 1) else if size3 t > 2000 then (Re.zero, 5) else (t, 0) := by unfold parse3; rw [hb]
    have hwf : (p : Nat) ≤ w1.heap.size ∧ p + 1 < w1.heap.size := by omega
    clear hw1 hr1 hr2
    repeat (first | refine qS ?_ | refine qB ?_ | refine qT rfl ?_ | refine qF rfl ?_ | ((first | refine qR rfl ?_ | refine qK ?_ | refine qE ?_ | refine qW ?_ | refine qM ?_); try simp -dsimp (maxSteps := 2000000) (disch := first | omega | (simp only [qZ] <;> omega) | fail) only [push_cast, ↓qP, ↓reduceIte, seval, f0]) | (refine qA ?_ ?_; (first | omega | (simp only [qL]; omega) | (simp only [qD] at *; omega))))
    obtain ⟨q, hq⟩ : ∃ q, q = w1.heap.size := ⟨_, rfl⟩
    have hrd : Rd (w1.alloc (.cells #[.string (B l), .int .i64 0] 133)) q l 0 0 := by
      have := Blk.new w1 133 [.string (B l), .int .i64 0]
      rw [← hq] at this
      exact this
    have k2 : Kp (fun _ => False) w (w1.alloc (.cells #[.string (B l), .int .i64 0] 133)) := k1.alloc _
    rw [← hq]
    refine CallV.gen (A := fun W => Rd W q l 0 0 ∧ Kp (fun _ => False) w W ∧ Blk W p 33 zRe ∧ Blk W (p + 1) 3 [.int .i64 0]) ⟨hrd, k2, hbe.alloc _, hbc.alloc _⟩ ?_
    clear hrd k2 hbe hbc k1
    rintro W ⟨hrd, k2, hbe, hbc⟩
    refine CallV.of isCall_81 ((ere_all (a := q) (by omega : l.length ≤ 1000000) (by omega) (4 * l.length + 3)).2.2 ⟨0, 0, 0⟩ W hrd (St3_start l) rfl (hM.kp k2 id) (start_some l)) ?_
    rw [hb]
    have hpW : p + 1 < W.heap.size := hbc.lt
    have hqW : q < W.heap.size := hrd.lt
    rintro e w5 (⟨t', s1', cs, he, hf1, rfl, hre, h5, k5⟩ | ⟨t', s1', he, hf1, x, rfl, x1, x2, k5⟩)
    case inr =>
      injection he with he
      injection he with he1 he2
      subst he1; subst he2
      rw [if_pos hf1] at hpz
      refine Sm.out ?_
      repeat (first | refine qS ?_ | refine qB ?_ | refine qT rfl ?_ | refine qF rfl ?_ | ((first | refine qR rfl ?_ | refine qK ?_ | refine qE ?_ | refine qW ?_ | refine qM ?_); try simp -dsimp (maxSteps := 2000000) (disch := first | omega | (simp only [qZ] <;> omega) | fail) only [push_cast, ↓qP, ↓reduceIte, seval, f2, f3]) | (refine qA ?_ ?_; (first | omega | (simp only [qL]; omega) | (simp only [qD] at *; omega))))
      exact ⟨by simp [upd, f2], by simp [upd, f3], zRe, _, k5.Blk hbe (by omega), k5.Blk hbc (by omega), rfl, rfl, k2.trans' k5 (fun i hi e => by omega), .inr ⟨x, rfl, x1, by rw [hpz]; exact hf1⟩⟩
    injection he with he
    injection he with he1 he2
    subst he1; subst he2
    rw [if_neg (by rw [hf1]; simp)] at hpz
    have k6 : Kp (fun _ => False) w w5 := k2.trans' k5 (fun i hi e => by omega)
    have hbe5 := k5.Blk hbe (by omega)
    have hbc5 := k5.Blk hbc (by omega)
    obtain ⟨o, se, A1, c1, c2, lo1, hi1, rfl⟩ := hre.form
    have hltp := hbe5.lt
    refine Sm.out ?_
    repeat (first | ((fail_if_success (first | refine qY (n := 4) ?_ | refine qV (n := 4) ?_)); refine qS ?_) | refine qB ?_ | refine qT rfl ?_ | refine qF rfl ?_ | ((first | refine qR rfl ?_ | refine qK ?_ | refine qE ?_ | refine qW ?_ | refine qM ?_); try simp -dsimp (maxSteps := 2000000) (disch := first | omega | (simp only [qZ] <;> omega) | fail) only [push_cast, ↓qP, ↓reduceIte, seval, f2, hbe5.rdc, hbe5.fz]) | (refine qA ?_ ?_; (first | omega | (simp only [qL]; omega) | (simp only [qD] at *; omega))))
    have hkp : Kp (· = p) w5 (w5.setCells p 0 [.string (B o), .string (B se), .slice A1 c1 c2, .int .i64 lo1, .int .i64 hi1]) := (Kp.refl (· = p) w5).setCells (fun _ => rfl) [.string (B o), .string (B se), .slice A1 c1 c2, .int .i64 lo1, .int .i64 hi1] 0
    have h6 : Rd (w5.setCells p 0 [.string (B o), .string (B se), .slice A1 c1 c2, .int .i64 lo1, .int .i64 hi1]) q l s1.i s1.d := hkp.Blk h5.blk (by omega)
    have be6 : Blk (w5.setCells p 0 [.string (B o), .string (B se), .slice A1 c1 c2, .int .i64 lo1, .int .i64 hi1]) p 33 [.string (B o), .string (B se), .slice A1 c1 c2, .int .i64 lo1, .int .i64 hi1] := Blk.setAll (cs := zRe) hbe5 rfl
    have bc6 : Blk (w5.setCells p 0 [.string (B o), .string (B se), .slice A1 c1 c2, .int .i64 lo1, .int .i64 hi1]) (p + 1) 3 [.int .i64 0] := hkp.Blk hbc5 (by omega)
    have re6 : IsRe (w5.setCells p 0 [.string (B o), .string (B se), .slice A1 c1 c2, .int .i64 lo1, .int .i64 hi1]) (fun b => p + 1 < b ∧ b < (w5.setCells p 0 [.string (B o), .string (B se), .slice A1 c1 c2, .int .i64 lo1, .int .i64 hi1]).heap.size) t [.string (B o), .string (B se), .slice A1 c1 c2, .int .i64 lo1, .int .i64 hi1] := hre.Kp hkp (fun b hb e => by have := hb.1; omega) (fun b hb => ⟨by have := hb.1; omega, Nat.lt_of_lt_of_le hb.2 hkp.size⟩)
    have k7 : Kp (fun _ => False) w (w5.setCells p 0 [.string (B o), .string (B se), .slice A1 c1 c2, .int .i64 lo1, .int .i64 hi1]) := k6.trans' hkp (fun i hi e => by omega)
    refine Wp.gen (A := fun W => Rd W q l s1.i s1.d ∧ Blk W p 33 [.string (B o), .string (B se), .slice A1 c1 c2, .int .i64 lo1, .int .i64 hi1] ∧ Blk W (p + 1) 3 [.int .i64 0] ∧ IsRe W (fun b => p + 1 < b ∧ b < W.heap.size) t [.string (B o), .string (B se), .slice A1 c1 c2, .int .i64 lo1, .int .i64 hi1] ∧ Kp (fun _ => False) w W) ⟨h6, be6, bc6, re6, k7⟩ ?_
    clear h6 be6 bc6 re6 k7 k6 hbe5 hbc5 hre h5 hkp k5 hltp hbe hbc hrd k2
    rintro W6 ⟨h6, be6, bc6, re6, k7⟩
    have hbq := h6.blk.rdc
    have he := empty_iff (l := l) (i := s1.i)
    have her := be6.rdc
    have hez := be6.fz
    have hcr := bc6.rdc
    have hcz := bc6.fz
    have hltp := be6.lt
    have hltc := bc6.lt
    rcases Nat.lt_or_ge s1.i l.length with hi2 | hi2
    · rw [decide_eq_false (by omega)] at he
      have hen : (!(l.drop s1.i == [])) = true := by rw [he]; rfl
      rw [if_pos hi2] at hpz
      repeat (first | refine qS ?_ | refine qB ?_ | refine qT rfl ?_ | refine qF rfl ?_ | ((first | refine qR rfl ?_ | refine qK ?_ | refine qE ?_ | refine qW ?_ | refine qM ?_); try simp -dsimp (maxSteps := 2000000) (disch := first | omega | (simp only [qZ] <;> omega) | fail) only [push_cast, ↓qP, ↓reduceIte, seval, hbq, he]) | (refine qA ?_ ?_; (first | omega | (simp only [qL]; omega) | (simp only [qD] at *; omega))))
      exact ⟨by simp [upd, f2], by simp [upd, f3], _, _, be6, bc6, rfl, rfl, k7, .inr ⟨1, rfl, by decide, by rw [hpz]; simp⟩⟩
    rw [decide_eq_true hi2] at he
    rw [if_neg (by omega)] at hpz
    obtain ⟨m1, m2⟩ := (reads_ok l (4 * l.length + 3)).2.2.2.2 _ _ _ (St3_start l) hb
    have hg := m2 hf1
    have hwt := (reads_wt l (4 * l.length + 3)).2.2.2.2 _ _ _ (St3_start l) hb hf1
    have hi3 := (m1.2.2 hf1).2.2
    have h00 : (⟨0, 0, 0⟩ : S3).i = 0 := rfl
    rw [h00] at hwt
    repeat (first | refine qS ?_ | refine qB ?_ | refine qT rfl ?_ | refine qF rfl ?_ | ((first | refine qR rfl ?_ | refine qK ?_ | refine qE ?_ | refine qW ?_ | refine qM ?_); try simp -dsimp (maxSteps := 2000000) (disch := first | omega | (simp only [qZ] <;> omega) | fail) only [push_cast, ↓qP, ↓reduceIte, seval, hbq, he, f2, her]) | (refine qA ?_ ?_; (first | omega | (simp only [qL]; omega) | (simp only [qD] at *; omega))))
    refine CallV.of isCall_82 (sizeE_any t hg (by omega) W6 _ re6) ?_
    rintro _ w8 ⟨rfl, k8⟩
    have be8 := k8.Blk be6 id
    have bc8 := k8.Blk bc6 id
    have her := be8.rdc
    have hez := be8.fz
    have hcr := bc8.rdc
    have hcz := bc8.fz
    have hltp := be8.lt
    have hltc := bc8.lt
    by_cases h2000 : size3 t > 2000
    · rw [if_pos h2000] at hpz
      have cz : decide (size3 t > 2000) = true := decide_eq_true h2000
      refine Sm.out ?_
      repeat (first | refine qS ?_ | refine qB ?_ | refine qT rfl ?_ | refine qF rfl ?_ | ((first | refine qR rfl ?_ | refine qK ?_ | refine qE ?_ | refine qW ?_ | refine qM ?_); try simp -dsimp (maxSteps := 2000000) (disch := first | omega | (simp only [qZ] <;> omega) | fail) only [push_cast, ↓qP, ↓reduceIte, seval, cz]) | (refine qA ?_ ?_; (first | omega | (simp only [qL]; omega) | (simp only [qD] at *; omega))))
      exact ⟨by simp [upd, f2], by simp [upd, f3], _, _, be8, bc8, rfl, rfl, k7.trans k8, .inr ⟨5, rfl, by decide, by rw [hpz]; simp⟩⟩
    · rw [if_neg h2000] at hpz
      have cz : decide (size3 t > 2000) = false := decide_eq_false h2000
      refine Sm.out ?_
      repeat (first | refine qS ?_ | refine qB ?_ | refine qT rfl ?_ | refine qF rfl ?_ | ((first | refine qR rfl ?_ | refine qK ?_ | refine qE ?_ | refine qW ?_ | refine qM ?_); try simp -dsimp (maxSteps := 2000000) (disch := first | omega | (simp only [qZ] <;> omega) | fail) only [push_cast, ↓qP, ↓reduceIte, seval, cz, f2, f3, her, hez, hcr, hcz]) | (refine qA ?_ ?_; (first | omega | (simp only [qL]; omega) | (simp only [qD] at *; omega))))
      have hkp : Kp (· = p) w8 (w8.setCells p 0 [.string (B o), .string (B se), .slice A1 c1 c2, .int .i64 lo1, .int .i64 hi1]) := (Kp.refl (· = p) w8).setCells (fun _ => rfl) [.string (B o), .string (B se), .slice A1 c1 c2, .int .i64 lo1, .int .i64 hi1] 0
      have hkc : Kp (· = p + 1) (w8.setCells p 0 [.string (B o), .string (B se), .slice A1 c1 c2, .int .i64 lo1, .int .i64 hi1]) ((w8.setCells p 0 [.string (B o), .string (B se), .slice A1 c1 c2, .int .i64 lo1, .int .i64 hi1]).setCell ⟨p + 1, 0, none⟩ (.int .i64 0)) := (Kp.refl (· = p + 1) _).setCell (fun _ => rfl) _
      have be9 : Blk ((w8.setCells p 0 [.string (B o), .string (B se), .slice A1 c1 c2, .int .i64 lo1, .int .i64 hi1]).setCell ⟨p + 1, 0, none⟩ (.int .i64 0)) p 33 [.string (B o), .string (B se), .slice A1 c1 c2, .int .i64 lo1, .int .i64 hi1] := hkc.Blk (Blk.setAll be8 rfl) (by omega)
      have bc9 : Blk ((w8.setCells p 0 [.string (B o), .string (B se), .slice A1 c1 c2, .int .i64 lo1, .int .i64 hi1]).setCell ⟨p + 1, 0, none⟩ (.int .i64 0)) (p + 1) 3 [.int .i64 0] := (hkp.Blk bc8 (by omega)).set 0 (.int .i64 0)
      have k9 : Kp (fun _ => False) w ((w8.setCells p 0 [.string (B o), .string (B se), .slice A1 c1 c2, .int .i64 lo1, .int .i64 hi1]).setCell ⟨p + 1, 0, none⟩ (.int .i64 0)) := ((k7.trans k8).trans' hkp (fun i hi e => by omega)).trans' hkc (fun i hi e => by omega)
      have re9 := ((re6.Kp (D' := fun b => p + 1 < b ∧ b < w8.heap.size) k8 (fun _ _ => id) (fun b hb => ⟨hb.1, Nat.lt_of_lt_of_le hb.2 k8.size⟩)).Kp (D' := fun b => p + 1 < b ∧ b < w8.heap.size) hkp (fun b hb e => by have := hb.1; omega) (fun b hb => hb)).Kp
        (D' := fun b => w.heap.size ≤ b ∧ b < ((w8.setCells p 0 [.string (B o), .string (B se), .slice A1 c1 c2, .int .i64 lo1, .int .i64 hi1]).setCell ⟨p + 1, 0, none⟩ (.int .i64 0)).heap.size) hkc (fun b hb e => by have := hb.1; omega) (fun b hb => ⟨by have := hb.1; omega, Nat.lt_of_lt_of_le hb.2 (Nat.le_trans hkp.size hkc.size)⟩)
      exact ⟨by simp [upd, f2], by simp [upd, f3], _, _, be9, bc9, rfl, rfl, k9, .inl ⟨rfl, rfl, by rw [hpz]; exact re9, by rw [hpz]⟩⟩
end Go.Proofs.Ytddichibegppjaa

/- The reference's split at blanks. -/
namespace Go.Proofs.Ytddichibegppjaa
open Go Go.VC

theorem split3_blank (s : List UInt8) (b : Bool) (w : World) (hs : s.length ≤ 1000000) : Splits3 w s [32] b (blanks s) := by
  unfold Splits3
  refine enter (n := 173) (args := [.string (B s), .string (B [32]), .bool b]) Try.func35 rfl rfl rfl (by simp) ?_
  rcases Bool.eq_false_or_eq_true (s == []) with h1 | h1
  · have hs0 : s = [] := by simpa using h1
    repeat (first | refine qS ?_ | refine qB ?_ | refine qT rfl ?_ | refine qF rfl ?_ | ((first | refine qR rfl ?_ | refine qK ?_ | refine qE ?_ | refine qW ?_ | refine qM ?_); try simp -dsimp (disch := first | omega | (simp only [qZ] <;> omega) | fail) only [push_cast, ↓qP, ↓reduceIte, seval, h1]) | (refine qA ?_ ?_; (first | omega | (simp only [qL]; omega) | (simp only [qD] at *; omega))))
    subst hs0
    exact Ret.mk ⟨none, 0, rfl, Own.nil _ _ _, Kp.refl _ _⟩
  repeat (first | refine qS ?_ | refine qB ?_ | refine qT rfl ?_ | refine qF rfl ?_ | ((first | refine qR rfl ?_ | refine qK ?_ | refine qE ?_ | refine qW ?_ | refine qM ?_); try simp -dsimp (disch := first | omega | (simp only [qZ] <;> omega) | fail) only [push_cast, ↓qP, ↓reduceIte, seval, h1]) | (refine qA ?_ ?_; (first | omega | (simp only [qL]; omega) | (simp only [qD] at *; omega))))
  refine Wp.loop (α := Nat) (fun k F w2 => ∃ A cap xs cur, F 0 = .string (B s) ∧ F 8 = .slice A xs.length cap ∧ F 17 = .string (B cur) ∧ F 18 = .int .i64 k ∧ k ≤ s.length ∧ xs.length ≤ k ∧ cur.length ≤ k ∧
      Own w2 9 1 A xs.length cap (St xs) ∧ (∀ g, bk A = some g → w.heap.size ≤ g) ∧ Kp0 w w2 ∧ xs ++ fl cur (s.drop k) = blanks s) (fun k => s.length - k) 0
    ⟨none, 0, [], [], ?_, ?_, ?_, ?_, by omega, by simp, by simp, Own.nil _ _ _, by simp [bk], Kp.refl _ _, by simp [blanks]⟩ ?_
  · simp -dsimp (disch := first | omega | (simp only [qZ] <;> omega) | fail) only [push_cast, ↓qP, ↓reduceIte, seval]
  · simp -dsimp (disch := first | omega | (simp only [qZ] <;> omega) | fail) only [push_cast, ↓qP, ↓reduceIte, seval]
  · simp -dsimp (disch := first | omega | (simp only [qZ] <;> omega) | fail) only [push_cast, ↓qP, ↓reduceIte, seval]
  · simp -dsimp (disch := first | omega | (simp only [qZ] <;> omega) | fail) only [push_cast, ↓qP, ↓reduceIte, seval]
  rintro k F w2 ⟨A, cap, xs, cur, f0, f8, f17, f18, hk, hxk, hck, hown, hnew, hkp, hsp⟩
  rcases Bool.eq_false_or_eq_true (decide ((k : Int) < (s.length : Int))) with h4 | h4
  · have hk' : k < s.length := by simpa using h4
    have hbt : bt (B s) k = (s[k].toNat : Int) := by rw [bt_B]; simp [hk']
    have hwr : IntKind.i64.wrap ((k : Int) + 1) = ((k + 1 : Nat) : Int) := by rw [wrap_id (by omega)]; omega
    have g32 : ((s[k].toNat : Int) == 32) = (s[k] == 32) := u8_eq s[k] 32
    have g9 : ((s[k].toNat : Int) == 9) = (s[k] == 9) := u8_eq s[k] 9
    have g10 : ((s[k].toNat : Int) == 10) = (s[k] == 10) := u8_eq s[k] 10
    rw [List.drop_eq_getElem_cons hk', fl] at hsp
    rcases Bool.eq_false_or_eq_true (isBl s[k]) with hb | hb
    · rw [if_pos hb] at hsp
      rcases Bool.eq_false_or_eq_true (s[k] == 32) with e1 | e1
      · rcases Bool.eq_false_or_eq_true (cur == []) with hc | hc
        · rw [if_pos (by simpa using hc)] at hsp
          repeat (first | refine qS ?_ | refine qB ?_ | refine qT rfl ?_ | refine qF rfl ?_ | ((first | refine qR rfl ?_ | refine qK ?_ | refine qE ?_ | refine qW ?_ | refine qM ?_); try simp -dsimp (disch := first | omega | (simp only [qZ] <;> omega) | fail) only [push_cast, ↓qP, ↓reduceIte, seval, f0, f8, f17, f18, h4, hbt, g32, g9, g10, e1, hc, hwr]) | (refine qA ?_ ?_; (first | omega | (simp only [qL]; omega) | (simp only [qD] at *; omega))))
          refine Again.mk (k + 1) ⟨A, cap, xs, [], ?_, ?_, ?_, ?_, by omega, by omega, by simp, hown, hnew, hkp, hsp⟩ (by omega)
          · simp -dsimp (disch := first | omega | (simp only [qZ] <;> omega) | fail) only [push_cast, ↓qP, ↓reduceIte, seval, f0]
          · simp -dsimp (disch := first | omega | (simp only [qZ] <;> omega) | fail) only [push_cast, ↓qP, ↓reduceIte, seval, f8]
          · simp -dsimp (disch := first | omega | (simp only [qZ] <;> omega) | fail) only [push_cast, ↓qP, ↓reduceIte, seval]
          · simp -dsimp (disch := first | omega | (simp only [qZ] <;> omega) | fail) only [push_cast, ↓qP, ↓reduceIte, seval, hwr]
        · rw [if_neg (by simpa using hc)] at hsp
          repeat (first | refine qS ?_ | refine qB ?_ | refine qT rfl ?_ | refine qF rfl ?_ | ((first | refine qR rfl ?_ | refine qK ?_ | refine qE ?_ | refine qW ?_ | refine qM ?_); try simp -dsimp (disch := first | omega | (simp only [qZ] <;> omega) | fail) only [push_cast, ↓qP, ↓reduceIte, seval, f0, f8, f17, f18, h4, hbt, g32, g9, g10, e1, hc, hwr]) | (refine qA ?_ ?_; (first | omega | (simp only [qL]; omega) | (simp only [qD] at *; omega))))
          refine V_append (m := 1) _ _ _ rfl mk_54 rfl (hown.alloc _) rfl [.string (B cur)] ?r rfl (by omega) (by omega) ?k
          case r => simp -dsimp (disch := first | omega | (simp only [qZ] <;> omega) | fail) only [push_cast, ↓qP, ↓reduceIte, seval]
          case k =>
            intro A' cap' w3 hown' hgrow hat
            refine Sm.out ?_
            repeat (first | refine qS ?_ | refine qB ?_ | refine qT rfl ?_ | refine qF rfl ?_ | ((first | refine qR rfl ?_ | refine qK ?_ | refine qE ?_ | refine qW ?_ | refine qM ?_); try simp -dsimp (disch := first | omega | (simp only [qZ] <;> omega) | fail) only [push_cast, ↓qP, ↓reduceIte, seval, f0, f8, f17, f18, hwr]) | (refine qA ?_ ?_; (first | omega | (simp only [qL]; omega) | (simp only [qD] at *; omega))))
            refine Again.mk (k + 1) ⟨A', cap', xs ++ [cur], [], ?_, ?_, ?_, ?_, by omega, by simp; omega, by simp, ?_, ?_, (hkp.alloc _).grown hgrow (fun g hg hlt => by have := hnew g hg; omega), ?_⟩ (by omega)
            · simp -dsimp (disch := first | omega | (simp only [qZ] <;> omega) | fail) only [push_cast, ↓qP, ↓reduceIte, seval, f0]
            · simp -dsimp (disch := first | omega | (simp only [qZ] <;> omega) | fail) only [push_cast, ↓qP, ↓reduceIte, seval, List.length_append]
            · simp -dsimp (disch := first | omega | (simp only [qZ] <;> omega) | fail) only [push_cast, ↓qP, ↓reduceIte, seval]
            · simp -dsimp (disch := first | omega | (simp only [qZ] <;> omega) | fail) only [push_cast, ↓qP, ↓reduceIte, seval, hwr]
            · rw [St_append, List.length_append]; exact hown'
            · intro g hg
              rcases hat with h | h
              · exact hnew g (h ▸ hg)
              · rw [h] at hg; simp at hg; subst hg; have := hkp.size; simp; omega
            · rw [← hsp]; simp
      rcases Bool.eq_false_or_eq_true (s[k] == 9) with e2 | e2
      · rcases Bool.eq_false_or_eq_true (cur == []) with hc | hc
        · rw [if_pos (by simpa using hc)] at hsp
          repeat (first | refine qS ?_ | refine qB ?_ | refine qT rfl ?_ | refine qF rfl ?_ | ((first | refine qR rfl ?_ | refine qK ?_ | refine qE ?_ | refine qW ?_ | refine qM ?_); try simp -dsimp (disch := first | omega | (simp only [qZ] <;> omega) | fail) only [push_cast, ↓qP, ↓reduceIte, seval, f0, f8, f17, f18, h4, hbt, g32, g9, g10, e1, e2, hc, hwr]) | (refine qA ?_ ?_; (first | omega | (simp only [qL]; omega) | (simp only [qD] at *; omega))))
          refine Again.mk (k + 1) ⟨A, cap, xs, [], ?_, ?_, ?_, ?_, by omega, by omega, by simp, hown, hnew, hkp, hsp⟩ (by omega)
          · simp -dsimp (disch := first | omega | (simp only [qZ] <;> omega) | fail) only [push_cast, ↓qP, ↓reduceIte, seval, f0]
          · simp -dsimp (disch := first | omega | (simp only [qZ] <;> omega) | fail) only [push_cast, ↓qP, ↓reduceIte, seval, f8]
          · simp -dsimp (disch := first | omega | (simp only [qZ] <;> omega) | fail) only [push_cast, ↓qP, ↓reduceIte, seval]
          · simp -dsimp (disch := first | omega | (simp only [qZ] <;> omega) | fail) only [push_cast, ↓qP, ↓reduceIte, seval, hwr]
        · rw [if_neg (by simpa using hc)] at hsp
          repeat (first | refine qS ?_ | refine qB ?_ | refine qT rfl ?_ | refine qF rfl ?_ | ((first | refine qR rfl ?_ | refine qK ?_ | refine qE ?_ | refine qW ?_ | refine qM ?_); try simp -dsimp (disch := first | omega | (simp only [qZ] <;> omega) | fail) only [push_cast, ↓qP, ↓reduceIte, seval, f0, f8, f17, f18, h4, hbt, g32, g9, g10, e1, e2, hc, hwr]) | (refine qA ?_ ?_; (first | omega | (simp only [qL]; omega) | (simp only [qD] at *; omega))))
          refine V_append (m := 1) _ _ _ rfl mk_54 rfl (hown.alloc _) rfl [.string (B cur)] ?r rfl (by omega) (by omega) ?k
          case r => simp -dsimp (disch := first | omega | (simp only [qZ] <;> omega) | fail) only [push_cast, ↓qP, ↓reduceIte, seval]
          case k =>
            intro A' cap' w3 hown' hgrow hat
            refine Sm.out ?_
            repeat (first | refine qS ?_ | refine qB ?_ | refine qT rfl ?_ | refine qF rfl ?_ | ((first | refine qR rfl ?_ | refine qK ?_ | refine qE ?_ | refine qW ?_ | refine qM ?_); try simp -dsimp (disch := first | omega | (simp only [qZ] <;> omega) | fail) only [push_cast, ↓qP, ↓reduceIte, seval, f0, f8, f17, f18, hwr]) | (refine qA ?_ ?_; (first | omega | (simp only [qL]; omega) | (simp only [qD] at *; omega))))
            refine Again.mk (k + 1) ⟨A', cap', xs ++ [cur], [], ?_, ?_, ?_, ?_, by omega, by simp; omega, by simp, ?_, ?_, (hkp.alloc _).grown hgrow (fun g hg hlt => by have := hnew g hg; omega), ?_⟩ (by omega)
            · simp -dsimp (disch := first | omega | (simp only [qZ] <;> omega) | fail) only [push_cast, ↓qP, ↓reduceIte, seval, f0]
            · simp -dsimp (disch := first | omega | (simp only [qZ] <;> omega) | fail) only [push_cast, ↓qP, ↓reduceIte, seval, List.length_append]
            · simp -dsimp (disch := first | omega | (simp only [qZ] <;> omega) | fail) only [push_cast, ↓qP, ↓reduceIte, seval]
            · simp -dsimp (disch := first | omega | (simp only [qZ] <;> omega) | fail) only [push_cast, ↓qP, ↓reduceIte, seval, hwr]
            · rw [St_append, List.length_append]; exact hown'
            · intro g hg
              rcases hat with h | h
              · exact hnew g (h ▸ hg)
              · rw [h] at hg; simp at hg; subst hg; have := hkp.size; simp; omega
            · rw [← hsp]; simp
      have e3 : (s[k] == 10) = true := by simpa [isBl, e1, e2] using hb
      rcases Bool.eq_false_or_eq_true (cur == []) with hc | hc
      · rw [if_pos (by simpa using hc)] at hsp
        repeat (first | refine qS ?_ | refine qB ?_ | refine qT rfl ?_ | refine qF rfl ?_ | ((first | refine qR rfl ?_ | refine qK ?_ | refine qE ?_ | refine qW ?_ | refine qM ?_); try simp -dsimp (disch := first | omega | (simp only [qZ] <;> omega) | fail) only [push_cast, ↓qP, ↓reduceIte, seval, f0, f8, f17, f18, h4, hbt, g32, g9, g10, e1, e2, e3, hc, hwr]) | (refine qA ?_ ?_; (first | omega | (simp only [qL]; omega) | (simp only [qD] at *; omega))))
        refine Again.mk (k + 1) ⟨A, cap, xs, [], ?_, ?_, ?_, ?_, by omega, by omega, by simp, hown, hnew, hkp, hsp⟩ (by omega)
        · simp -dsimp (disch := first | omega | (simp only [qZ] <;> omega) | fail) only [push_cast, ↓qP, ↓reduceIte, seval, f0]
        · simp -dsimp (disch := first | omega | (simp only [qZ] <;> omega) | fail) only [push_cast, ↓qP, ↓reduceIte, seval, f8]
        · simp -dsimp (disch := first | omega | (simp only [qZ] <;> omega) | fail) only [push_cast, ↓qP, ↓reduceIte, seval]
        · simp -dsimp (disch := first | omega | (simp only [qZ] <;> omega) | fail) only [push_cast, ↓qP, ↓reduceIte, seval, hwr]
      · rw [if_neg (by simpa using hc)] at hsp
        repeat (first | refine qS ?_ | refine qB ?_ | refine qT rfl ?_ | refine qF rfl ?_ | ((first | refine qR rfl ?_ | refine qK ?_ | refine qE ?_ | refine qW ?_ | refine qM ?_); try simp -dsimp (disch := first | omega | (simp only [qZ] <;> omega) | fail) only [push_cast, ↓qP, ↓reduceIte, seval, f0, f8, f17, f18, h4, hbt, g32, g9, g10, e1, e2, e3, hc, hwr]) | (refine qA ?_ ?_; (first | omega | (simp only [qL]; omega) | (simp only [qD] at *; omega))))
        refine V_append (m := 1) _ _ _ rfl mk_54 rfl (hown.alloc _) rfl [.string (B cur)] ?r rfl (by omega) (by omega) ?k
        case r => simp -dsimp (disch := first | omega | (simp only [qZ] <;> omega) | fail) only [push_cast, ↓qP, ↓reduceIte, seval]
        case k =>
          intro A' cap' w3 hown' hgrow hat
          refine Sm.out ?_
          repeat (first | refine qS ?_ | refine qB ?_ | refine qT rfl ?_ | refine qF rfl ?_ | ((first | refine qR rfl ?_ | refine qK ?_ | refine qE ?_ | refine qW ?_ | refine qM ?_); try simp -dsimp (disch := first | omega | (simp only [qZ] <;> omega) | fail) only [push_cast, ↓qP, ↓reduceIte, seval, f0, f8, f17, f18, hwr]) | (refine qA ?_ ?_; (first | omega | (simp only [qL]; omega) | (simp only [qD] at *; omega))))
          refine Again.mk (k + 1) ⟨A', cap', xs ++ [cur], [], ?_, ?_, ?_, ?_, by omega, by simp; omega, by simp, ?_, ?_, (hkp.alloc _).grown hgrow (fun g hg hlt => by have := hnew g hg; omega), ?_⟩ (by omega)
          · simp -dsimp (disch := first | omega | (simp only [qZ] <;> omega) | fail) only [push_cast, ↓qP, ↓reduceIte, seval, f0]
          · simp -dsimp (disch := first | omega | (simp only [qZ] <;> omega) | fail) only [push_cast, ↓qP, ↓reduceIte, seval, List.length_append]
          · simp -dsimp (disch := first | omega | (simp only [qZ] <;> omega) | fail) only [push_cast, ↓qP, ↓reduceIte, seval]
          · simp -dsimp (disch := first | omega | (simp only [qZ] <;> omega) | fail) only [push_cast, ↓qP, ↓reduceIte, seval, hwr]
          · rw [St_append, List.length_append]; exact hown'
          · intro g hg
            rcases hat with h | h
            · exact hnew g (h ▸ hg)
            · rw [h] at hg; simp at hg; subst hg; have := hkp.size; simp; omega
          · rw [← hsp]; simp
    · rw [if_neg (by rw [hb]; simp)] at hsp
      have e123 : (s[k] == 32) = false ∧ (s[k] == 9) = false ∧ (s[k] == 10) = false := by simpa [isBl, and_assoc] using hb
      obtain ⟨e1, e2, e3⟩ := e123
      have ht1 : List.take ((((k : Int) + 1)).toNat - k) (List.drop k s) = [s[k]] := by
        rw [show ((k : Int) + 1).toNat - k = 1 by omega, List.drop_eq_getElem_cons hk']; rfl
      repeat (first | refine qS ?_ | refine qB ?_ | refine qT rfl ?_ | refine qF rfl ?_ | ((first | refine qR rfl ?_ | refine qK ?_ | refine qE ?_ | refine qW ?_ | refine qM ?_); try simp -dsimp (disch := first | omega | (simp only [qZ] <;> omega) | fail) only [push_cast, ↓qP, ↓reduceIte, seval, f0, f8, f17, f18, h4, hbt, g32, g9, g10, e1, e2, e3, hwr, ht1]) | (refine qA ?_ ?_; (first | omega | (simp only [qL]; omega) | (simp only [qD] at *; omega))))
      refine Again.mk (k + 1) ⟨A, cap, xs, cur ++ [s[k]], ?_, ?_, ?_, ?_, by omega, by omega, by simp; omega, hown, hnew, hkp, hsp⟩ (by omega)
      · simp -dsimp (disch := first | omega | (simp only [qZ] <;> omega) | fail) only [push_cast, ↓qP, ↓reduceIte, seval, f0]
      · simp -dsimp (disch := first | omega | (simp only [qZ] <;> omega) | fail) only [push_cast, ↓qP, ↓reduceIte, seval, f8]
      · simp -dsimp (disch := first | omega | (simp only [qZ] <;> omega) | fail) only [push_cast, ↓qP, ↓reduceIte, seval]
      · simp -dsimp (disch := first | omega | (simp only [qZ] <;> omega) | fail) only [push_cast, ↓qP, ↓reduceIte, seval, hwr]
  · have hk' : k = s.length := by have : ¬ k < s.length := by simpa using h4
                                  omega
    subst hk'
    rw [List.drop_length, fl] at hsp
    rcases Bool.eq_false_or_eq_true (cur == []) with hc | hc
    · rw [if_pos (by simpa using hc), List.append_nil] at hsp
      repeat (first | refine qS ?_ | refine qB ?_ | refine qT rfl ?_ | refine qF rfl ?_ | ((first | refine qR rfl ?_ | refine qK ?_ | refine qE ?_ | refine qW ?_ | refine qM ?_); try simp -dsimp (disch := first | omega | (simp only [qZ] <;> omega) | fail) only [push_cast, ↓qP, ↓reduceIte, seval, f0, f8, f17, f18, h4, hc]) | (refine qA ?_ ?_; (first | omega | (simp only [qL]; omega) | (simp only [qD] at *; omega))))
      rw [← hsp]
      exact Ret.mk ⟨A, cap, rfl, hown, hkp⟩
    · rw [if_neg (by simpa using hc)] at hsp
      repeat (first | refine qS ?_ | refine qB ?_ | refine qT rfl ?_ | refine qF rfl ?_ | ((first | refine qR rfl ?_ | refine qK ?_ | refine qE ?_ | refine qW ?_ | refine qM ?_); try simp -dsimp (disch := first | omega | (simp only [qZ] <;> omega) | fail) only [push_cast, ↓qP, ↓reduceIte, seval, f0, f8, f17, f18, h4, hc]) | (refine qA ?_ ?_; (first | omega | (simp only [qL]; omega) | (simp only [qD] at *; omega))))
      refine V_append (m := 1) _ _ _ rfl mk_54 rfl (hown.alloc _) rfl [.string (B cur)] ?r rfl (by omega) (by omega) ?k
      case r => simp -dsimp (disch := first | omega | (simp only [qZ] <;> omega) | fail) only [push_cast, ↓qP, ↓reduceIte, seval]
      case k =>
        intro A' cap' w3 hown' hgrow hat
        refine Sm.out ?_
        repeat (first | refine qS ?_ | refine qB ?_ | refine qT rfl ?_ | refine qF rfl ?_ | ((first | refine qR rfl ?_ | refine qK ?_ | refine qE ?_ | refine qW ?_ | refine qM ?_); try simp -dsimp (disch := first | omega | (simp only [qZ] <;> omega) | fail) only [push_cast, ↓qP, ↓reduceIte, seval]) | (refine qA ?_ ?_; (first | omega | (simp only [qL]; omega) | (simp only [qD] at *; omega))))
        rw [← hsp]
        refine Ret.mk ⟨A', cap', by rw [List.length_append]; rfl, by rw [St_append, List.length_append]; exact hown', (hkp.alloc _).grown hgrow (fun g hg hlt => by have := hnew g hg; omega)⟩
end Go.Proofs.Ytddichibegppjaa
