/- Where trees match: the meaning, and the reference's way. Plain. -/
import Derived.Test.YtddichibegppjaaP2
set_option linter.unusedSimpArgs false
set_option linter.unusedVariables false
namespace Go.Proofs.Ytddichibegppjaa
open Go Go.VC

/-- So many steps of a relation. -/
def It (R : Nat → Nat → Prop) : Nat → Nat → Nat → Prop
  | 0, i, j => i = j
  | n + 1, i, j => ∃ m, R i m ∧ It R n m j

mutual
/-- It matches from a place to a place. -/
def Mt (l : List UInt8) : Re → Nat → Nat → Prop
  | .node op set kids lo hi, i, j =>
    if op = opSet then i < l.length ∧ byteAt l i ∈ set ∧ j = i + 1
    else if op = opBol then i = 0 ∧ j = 0
    else if op = opEol then i = l.length ∧ j = l.length
    else if op = opCat then MtCat l kids i j
    else if op = opAlt then MtAlt l kids i j
    else if op = opRep then MtRep l kids lo hi i j
    else False
def MtCat (l : List UInt8) : List Re → Nat → Nat → Prop
  | [], i, j => i = j
  | k :: ks, i, j => ∃ m, Mt l k i m ∧ MtCat l ks m j
def MtAlt (l : List UInt8) : List Re → Nat → Nat → Prop
  | [], _, _ => False
  | k :: ks, i, j => Mt l k i j ∨ MtAlt l ks i j
def MtRep (l : List UInt8) : List Re → Int → Int → Nat → Nat → Prop
  | [], _, _, _, _ => False
  | k :: _, lo, hi, i, j => ∃ n : Nat, lo ≤ n ∧ (hi < 0 ∨ (n : Int) ≤ hi) ∧ It (Mt l k) n i j
end

mutual
/-- A tree that is read of an expression. -/
def Good : Re → Prop
  | .node op set kids lo hi =>
    (op = opSet ∧ kids = [] ∧ set.length ≤ 256) ∨ (op = opBol ∧ kids = []) ∨ (op = opEol ∧ kids = []) ∨ (op = opCat ∧ Goods kids) ∨ (op = opAlt ∧ kids ≠ [] ∧ Goods kids) ∨
    (op = opRep ∧ kids.length = 1 ∧ Goods kids ∧ 0 ≤ lo ∧ lo ≤ 255 ∧ -1 ≤ hi ∧ hi ≤ 255 ∧ (hi < 0 ∨ lo ≤ hi))
def Goods : List Re → Prop
  | [] => True
  | k :: ks => Good k ∧ Goods ks
end

def In (fr : List Bool) (j : Nat) : Prop := fr.getD j false = true
def noP (l : List UInt8) : List Bool := List.replicate (l.length + 1) false
def orB (a b : List Bool) : List Bool := List.zipWith (· || ·) a b

def setE (l set : List UInt8) (fr : List Bool) : List Bool := (List.range (l.length + 1)).map fun j => match j with | 0 => false | i + 1 => fr.getD i false && set.contains (byteAt l i)
def starE (f : List Bool → List Bool) : Nat → List Bool → List Bool
  | 0, out => out
  | n + 1, out => if orB out (f out) = out then out else starE f n (orB out (f out))
def boundE (f : List Bool → List Bool) : Nat → List Bool → List Bool → List Bool
  | 0, _, out => out
  | n + 1, ab, out => boundE f n (f ab) (orB out (f ab))
def iterE (f : List Bool → List Bool) : Nat → List Bool → List Bool
  | 0, x => x
  | n + 1, x => iterE f n (f x)

mutual
/-- The reference's way. -/
def ends3 (l : List UInt8) : Re → List Bool → List Bool
  | .node op set kids lo hi, fr =>
    if op = opSet then setE l set fr
    else if op = opBol then (noP l).set 0 (fr.getD 0 false)
    else if op = opEol then (noP l).set l.length (fr.getD l.length false)
    else if op = opCat then endsCat l kids fr
    else if op = opAlt then endsAlt l kids fr (noP l)
    else if op = opRep then endsRep l kids lo hi fr
    else noP l
def endsCat (l : List UInt8) : List Re → List Bool → List Bool
  | [], fr => fr
  | k :: ks, fr => endsCat l ks (ends3 l k fr)
def endsAlt (l : List UInt8) : List Re → List Bool → List Bool → List Bool
  | [], _, out => out
  | k :: ks, fr, out => endsAlt l ks fr (orB out (ends3 l k fr))
def endsRep (l : List UInt8) : List Re → Int → Int → List Bool → List Bool
  | [], _, _, _ => noP l
  | k :: _, lo, hi, fr =>
    if hi < 0 then starE (ends3 l k) (l.length + 2) (iterE (ends3 l k) lo.toNat fr)
    else boundE (ends3 l k) (hi - lo).toNat (iterE (ends3 l k) lo.toNat fr) (iterE (ends3 l k) lo.toNat fr)
end

/-! ### What they mean -/

theorem op_ne : opSet ≠ opBol ∧ opSet ≠ opEol ∧ opSet ≠ opCat ∧ opSet ≠ opAlt ∧ opSet ≠ opRep ∧ opBol ≠ opEol ∧ opBol ≠ opCat ∧ opBol ≠ opAlt ∧ opBol ≠ opRep ∧ opEol ≠ opCat ∧ opEol ≠ opAlt ∧ opEol ≠ opRep ∧ opCat ≠ opAlt ∧ opCat ≠ opRep ∧ opAlt ≠ opRep := by decide

theorem In_lt {fr : List Bool} {j : Nat} (h : In fr j) : j < fr.length := by
  unfold In at h
  rw [List.getD_eq_getElem?_getD] at h
  rcases Nat.lt_or_ge j fr.length with h1 | h1
  · exact h1
  · rw [List.getElem?_eq_none h1] at h; simp at h
theorem In_orB {a b : List Bool} (h : a.length = b.length) (j : Nat) : In (orB a b) j ↔ In a j ∨ In b j := by
  unfold In orB
  simp only [List.getD_eq_getElem?_getD, List.getElem?_zipWith]
  rcases Nat.lt_or_ge j a.length with h1 | h1
  · rw [List.getElem?_eq_getElem h1, List.getElem?_eq_getElem (h ▸ h1)]; simp
  · rw [List.getElem?_eq_none h1, List.getElem?_eq_none (h ▸ h1)]; simp
theorem orB_len {a b : List Bool} (h : a.length = b.length) : (orB a b).length = a.length := by simp [orB, h]
theorem In_noP (l : List UInt8) (j : Nat) : ¬ In (noP l) j := by
  unfold In noP
  simp only [List.getD_eq_getElem?_getD, List.getElem?_replicate]
  split <;> simp
theorem In_set {a : List Bool} {k : Nat} {b : Bool} (hk : k < a.length) (j : Nat) : In (a.set k b) j ↔ (j = k ∧ b = true) ∨ (j ≠ k ∧ In a j) := by
  unfold In
  simp only [List.getD_eq_getElem?_getD, List.getElem?_set]
  by_cases h : k = j
  · subst h; simp [hk]
  · rw [if_neg h]
    simp [Ne.symm h]
theorem In_ext {a b : List Bool} (h : a.length = b.length) (hi : ∀ j, In a j ↔ In b j) : a = b := by
  refine List.ext_getElem h fun j h1 h2 => ?_
  have := hi j
  unfold In at this
  simp only [List.getD_eq_getElem?_getD, List.getElem?_eq_getElem h1, List.getElem?_eq_getElem h2, Option.getD_some] at this
  rw [Bool.eq_iff_iff]; exact this

/-- What a step of sets of places is to be. -/
def Img (N : Nat) (f : List Bool → List Bool) (R : Nat → Nat → Prop) : Prop := ∀ fr, fr.length = N → (f fr).length = N ∧ ∀ j, In (f fr) j ↔ ∃ i, In fr i ∧ R i j

theorem It_add {R : Nat → Nat → Prop} : ∀ (n m i j : Nat), It R (n + m) i j ↔ ∃ k, It R n i k ∧ It R m k j
  | 0, m, i, j => by simp [It]
  | n + 1, m, i, j => by
    rw [show n + 1 + m = (n + m) + 1 by omega]
    simp only [It]
    constructor
    · rintro ⟨k, h1, h2⟩
      obtain ⟨q, h3, h4⟩ := (It_add n m k j).1 h2
      exact ⟨q, ⟨k, h1, h3⟩, h4⟩
    · rintro ⟨q, ⟨k, h1, h3⟩, h4⟩
      exact ⟨k, h1, (It_add n m k j).2 ⟨q, h3, h4⟩⟩
theorem It_one {R : Nat → Nat → Prop} (i j : Nat) : It R 1 i j ↔ R i j := by simp [It]

theorem Img.iter {N : Nat} {f : List Bool → List Bool} {R : Nat → Nat → Prop} (h : Img N f R) : ∀ n, Img N (iterE f n) (It R n)
  | 0, fr, hf => ⟨hf, fun j => by simp [iterE, It]⟩
  | n + 1, fr, hf => by
    obtain ⟨h1, h2⟩ := h fr hf
    obtain ⟨h3, h4⟩ := h.iter n _ h1
    refine ⟨h3, fun j => ?_⟩
    simp only [iterE, It]
    rw [h4]
    constructor
    · rintro ⟨m, h5, h6⟩
      obtain ⟨i, h7, h8⟩ := (h2 m).1 h5
      exact ⟨i, h7, m, h8, h6⟩
    · rintro ⟨i, h7, m, h8, h6⟩
      exact ⟨m, (h2 m).2 ⟨i, h7, h8⟩, h6⟩

theorem boundE_spec {N : Nat} {f : List Bool → List Bool} {R : Nat → Nat → Prop} (h : Img N f R) : ∀ (n : Nat) (ab out : List Bool), ab.length = N → out.length = N →
    (boundE f n ab out).length = N ∧ ∀ j, In (boundE f n ab out) j ↔ In out j ∨ ∃ i q, In ab i ∧ 1 ≤ q ∧ q ≤ n ∧ It R q i j
  | 0, ab, out, ha, ho => ⟨ho, fun j => by simp [boundE]; intros; omega⟩
  | n + 1, ab, out, ha, ho => by
    obtain ⟨h1, h2⟩ := h ab ha
    have hl : out.length = (f ab).length := by omega
    obtain ⟨h3, h4⟩ := boundE_spec h n (f ab) (orB out (f ab)) h1 (by rw [orB_len hl]; exact ho)
    refine ⟨h3, fun j => ?_⟩
    simp only [boundE]
    rw [h4, In_orB hl]
    constructor
    · rintro ((h5 | h5) | ⟨i, q, h5, h6, h7, h8⟩)
      · exact .inl h5
      · obtain ⟨i, h9, h10⟩ := (h2 j).1 h5
        exact .inr ⟨i, 1, h9, by omega, by omega, (It_one i j).2 h10⟩
      · obtain ⟨i', h9, h10⟩ := (h2 i).1 h5
        exact .inr ⟨i', q + 1, h9, by omega, by omega, i, h10, h8⟩
    · rintro (h5 | ⟨i, q, h5, h6, h7, h8⟩)
      · exact .inl (.inl h5)
      · obtain ⟨q', rfl⟩ : ∃ q', q = q' + 1 := ⟨q - 1, by omega⟩
        obtain ⟨m, h9, h10⟩ := h8
        have h11 := (h2 m).2 ⟨i, h5, h9⟩
        rcases Nat.eq_zero_or_pos q' with h12 | h12
        · subst h12; simp only [It] at h10; subst h10; exact .inl (.inr h11)
        · exact .inr ⟨m, q', h11, by omega, by omega, h10⟩

/-- How many places are in it. -/
def cnt (a : List Bool) : Nat := a.countP (· = true)
theorem cnt_lt {a b : List Bool} (h : a.length = b.length) (hs : ∀ j, In a j → In b j) (hne : a ≠ b) : cnt a < cnt b := by
  induction a generalizing b with
  | nil => cases b with | nil => exact absurd rfl hne | cons => simp at h
  | cons x a ih =>
    cases b with
    | nil => simp at h
    | cons y b =>
      have hh : x = true → y = true := fun e => by have := hs 0; simpa [In, e] using this
      have ht : ∀ j, In a j → In b j := fun j hj => by have := hs (j + 1); simpa [In] using this (by simpa [In] using hj)
      simp at h
      unfold cnt
      simp only [List.countP_cons]
      by_cases e : a = b
      · subst e
        have : x ≠ y := fun e => hne (by rw [e])
        cases x <;> cases y <;> simp_all
      · have := ih h ht e
        unfold cnt at this
        cases x <;> cases y <;> simp_all <;> omega
theorem cnt_le (a : List Bool) : cnt a ≤ a.length := List.countP_le_length

theorem starE_spec {N : Nat} {f : List Bool → List Bool} {R : Nat → Nat → Prop} (h : Img N f R) : ∀ (n : Nat) (out : List Bool), out.length = N → N < cnt out + n →
    (starE f n out).length = N ∧ ∀ j, In (starE f n out) j ↔ ∃ i q, In out i ∧ It R q i j
  | 0, out, ho, hn => by have := cnt_le out; omega
  | n + 1, out, ho, hn => by
    obtain ⟨h1, h2⟩ := h out ho
    have hl : out.length = (f out).length := by omega
    have hsub : ∀ j, In out j → In (orB out (f out)) j := fun j hj => (In_orB hl j).2 (.inl hj)
    simp only [starE]
    split
    · rename_i hst
      refine ⟨ho, fun j => ⟨fun hj => ⟨j, 0, hj, rfl⟩, ?_⟩⟩
      rintro ⟨i, q, h3, h4⟩
      have hcl : ∀ i j, In out i → R i j → In out j := fun i j h5 h6 => by
        have := (In_orB hl j).2 (.inr ((h2 j).2 ⟨i, h5, h6⟩))
        rwa [hst] at this
      clear hn
      induction q generalizing i with
      | zero => simp only [It] at h4; subst h4; exact h3
      | succ q ih => obtain ⟨m, h5, h6⟩ := h4; exact ih m (hcl i m h3 h5) h6
    · rename_i hst
      have hlt := cnt_lt (by rw [orB_len hl]) hsub (Ne.symm hst)
      obtain ⟨h3, h4⟩ := starE_spec h n (orB out (f out)) (by rw [orB_len hl]; exact ho) (by omega)
      refine ⟨h3, fun j => ?_⟩
      rw [h4]
      constructor
      · rintro ⟨i, q, h5, h6⟩
        rcases (In_orB hl i).1 h5 with h7 | h7
        · exact ⟨i, q, h7, h6⟩
        · obtain ⟨i', h8, h9⟩ := (h2 i).1 h7
          exact ⟨i', q + 1, h8, i, h9, h6⟩
      · rintro ⟨i, q, h5, h6⟩
        exact ⟨i, q, hsub i h5, h6⟩

theorem setE_spec (l set : List UInt8) : Img (l.length + 1) (setE l set) (fun i j => i < l.length ∧ byteAt l i ∈ set ∧ j = i + 1) := by
  intro fr hf
  refine ⟨by simp [setE], fun j => ?_⟩
  unfold In setE
  simp only [List.getD_eq_getElem?_getD, List.getElem?_map]
  cases j with
  | zero => simp
  | succ j =>
    rcases Nat.lt_or_ge j l.length with h | h
    · rw [List.getElem?_range (by omega)]
      simp only [Option.map_some, Option.getD_some, Bool.and_eq_true]
      constructor
      · rintro ⟨h1, h2⟩; exact ⟨j, h1, h, by simpa using h2, rfl⟩
      · rintro ⟨i, h1, h2, h3, h4⟩
        obtain rfl : i = j := by omega
        exact ⟨h1, by simpa using h3⟩
    · rw [List.getElem?_eq_none (by simpa using by omega)]
      simp
      intros; omega

mutual
theorem ends3_spec (l : List UInt8) : ∀ e, Good e → Img (l.length + 1) (ends3 l e) (Mt l e)
  | .node op set kids lo hi, hg => by
    obtain ⟨n1, n2, n3, n4, n5, n6, n7, n8, n9, n10, n11, n12, n13, n14, n15⟩ := op_ne
    intro fr hf
    simp only [Good] at hg
    rcases hg with ⟨rfl, hg⟩ | ⟨rfl, hg⟩ | ⟨rfl, hg⟩ | ⟨rfl, hg⟩ | ⟨rfl, hg, hg2⟩ | ⟨rfl, hg, hg2, h0, h1, h2, h3, h4⟩
    · simp only [ends3, Mt, if_true]
      exact setE_spec l set fr hf
    · simp only [ends3, Mt, Ne.symm n1, if_true, if_false]
      refine ⟨by simp [noP], fun j => ?_⟩
      rw [In_set (by simp [noP])]
      constructor
      · rintro (⟨h1, h2⟩ | ⟨_, h2⟩)
        · exact ⟨0, h2, rfl, h1⟩
        · exact absurd h2 (In_noP l j)
      · rintro ⟨i, h1, rfl, h2⟩; exact .inl ⟨h2, h1⟩
    · simp only [ends3, Mt, Ne.symm n2, Ne.symm n6, if_true, if_false]
      refine ⟨by simp [noP], fun j => ?_⟩
      rw [In_set (by simp [noP])]
      constructor
      · rintro (⟨h1, h2⟩ | ⟨_, h2⟩)
        · exact ⟨l.length, h2, rfl, h1⟩
        · exact absurd h2 (In_noP l j)
      · rintro ⟨i, h1, rfl, h2⟩; exact .inl ⟨h2, h1⟩
    · simp only [ends3, Mt, Ne.symm n3, Ne.symm n7, Ne.symm n10, if_true, if_false]
      exact endsCat_spec l kids hg fr hf
    · simp only [ends3, Mt, Ne.symm n4, Ne.symm n8, Ne.symm n11, Ne.symm n13, if_true, if_false]
      obtain ⟨h1, h2⟩ := endsAlt_spec l kids hg2 fr (noP l) hf (by simp [noP])
      refine ⟨h1, fun j => ?_⟩
      rw [h2]
      constructor
      · rintro (h3 | h3)
        · exact absurd h3 (In_noP l j)
        · exact h3
      · exact .inr
    · simp only [ends3, Mt, Ne.symm n5, Ne.symm n9, Ne.symm n12, Ne.symm n14, Ne.symm n15, if_true, if_false]
      exact endsRep_spec l kids hg2 hg lo hi h0 h4 fr hf
theorem endsCat_spec (l : List UInt8) : ∀ ks, Goods ks → Img (l.length + 1) (endsCat l ks) (MtCat l ks)
  | [], _, fr, hf => ⟨hf, fun j => by simp [endsCat, MtCat]⟩
  | k :: ks, hg, fr, hf => by
    simp only [Goods] at hg
    obtain ⟨h1, h2⟩ := ends3_spec l k hg.1 fr hf
    obtain ⟨h3, h4⟩ := endsCat_spec l ks hg.2 _ h1
    refine ⟨h3, fun j => ?_⟩
    simp only [endsCat, MtCat]
    rw [h4]
    constructor
    · rintro ⟨m, h5, h6⟩
      obtain ⟨i, h7, h8⟩ := (h2 m).1 h5
      exact ⟨i, h7, m, h8, h6⟩
    · rintro ⟨i, h7, m, h8, h6⟩
      exact ⟨m, (h2 m).2 ⟨i, h7, h8⟩, h6⟩
theorem endsAlt_spec (l : List UInt8) : ∀ ks, Goods ks → ∀ fr out, fr.length = l.length + 1 → out.length = l.length + 1 →
    (endsAlt l ks fr out).length = l.length + 1 ∧ ∀ j, In (endsAlt l ks fr out) j ↔ In out j ∨ ∃ i, In fr i ∧ MtAlt l ks i j
  | [], _, fr, out, hf, ho => ⟨ho, fun j => by simp [endsAlt, MtAlt]⟩
  | k :: ks, hg, fr, out, hf, ho => by
    simp only [Goods] at hg
    obtain ⟨h1, h2⟩ := ends3_spec l k hg.1 fr hf
    have hl : out.length = (ends3 l k fr).length := by omega
    obtain ⟨h3, h4⟩ := endsAlt_spec l ks hg.2 fr (orB out (ends3 l k fr)) hf (by rw [orB_len hl]; exact ho)
    refine ⟨h3, fun j => ?_⟩
    simp only [endsAlt, MtAlt]
    rw [h4, In_orB hl, h2]
    constructor
    · rintro ((h5 | ⟨i, h6, h7⟩) | ⟨i, h6, h7⟩)
      · exact .inl h5
      · exact .inr ⟨i, h6, .inl h7⟩
      · exact .inr ⟨i, h6, .inr h7⟩
    · rintro (h5 | ⟨i, h6, h7 | h7⟩)
      · exact .inl (.inl h5)
      · exact .inl (.inr ⟨i, h6, h7⟩)
      · exact .inr ⟨i, h6, h7⟩
theorem endsRep_spec (l : List UInt8) : ∀ ks, Goods ks → ks.length = 1 → ∀ lo hi : Int, 0 ≤ lo → (hi < 0 ∨ lo ≤ hi) → Img (l.length + 1) (endsRep l ks lo hi) (MtRep l ks lo hi)
  | [], _, h, _, _, _, _ => by simp at h
  | k :: ks, hg, _, lo, hi, hlo, hhi => by
    intro fr hf
    simp only [Goods] at hg
    have hk := ends3_spec l k hg.1
    obtain ⟨h1, h2⟩ := hk.iter lo.toNat fr hf
    simp only [endsRep, MtRep]
    split
    · rename_i hneg
      obtain ⟨h3, h4⟩ := starE_spec hk (l.length + 2) _ h1 (by omega)
      refine ⟨h3, fun j => ?_⟩
      rw [h4]
      constructor
      · rintro ⟨i, q, h5, h6⟩
        obtain ⟨i', h7, h8⟩ := (h2 i).1 h5
        exact ⟨i', h7, lo.toNat + q, by omega, .inl hneg, (It_add _ _ _ _).2 ⟨i, h8, h6⟩⟩
      · rintro ⟨i', h7, n, h8, _, h9⟩
        rw [show n = lo.toNat + (n - lo.toNat) by omega] at h9
        obtain ⟨i, h10, h11⟩ := (It_add _ _ _ _).1 h9
        exact ⟨i, n - lo.toNat, (h2 i).2 ⟨i', h7, h10⟩, h11⟩
    · rename_i hneg
      obtain ⟨h3, h4⟩ := boundE_spec hk (hi - lo).toNat _ _ h1 h1
      refine ⟨h3, fun j => ?_⟩
      rw [h4]
      constructor
      · rintro (h5 | ⟨i, q, h5, h6, h7, h8⟩)
        · obtain ⟨i', h7, h8⟩ := (h2 j).1 h5
          exact ⟨i', h7, lo.toNat, by omega, .inr (by omega), h8⟩
        · obtain ⟨i', h9, h10⟩ := (h2 i).1 h5
          exact ⟨i', h9, lo.toNat + q, by omega, .inr (by omega), (It_add _ _ _ _).2 ⟨i, h10, h8⟩⟩
      · rintro ⟨i', h7, n, h8, h9, h10⟩
        rw [show n = lo.toNat + (n - lo.toNat) by omega] at h10
        obtain ⟨i, h11, h12⟩ := (It_add _ _ _ _).1 h10
        rcases Nat.eq_zero_or_pos (n - lo.toNat) with h13 | h13
        · rw [h13] at h12; simp only [It] at h12; subst h12; exact .inl ((h2 i).2 ⟨i', h7, h11⟩)
        · exact .inr ⟨i, n - lo.toNat, (h2 i).2 ⟨i', h7, h11⟩, h13, by omega, h12⟩
end
end Go.Proofs.Ytddichibegppjaa
