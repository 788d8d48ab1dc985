/- Plain facts on sets and classes. -/
import Derived.Test.YtddichibegppjaaP2
set_option linter.unusedSimpArgs false
set_option linter.unusedVariables false
namespace Go.Proofs.Ytddichibegppjaa
open Go Go.VC

theorem in3_snd (n : List UInt8) (c d : Int) : (in3 n c).2 = (in3 n d).2 := by
  unfold in3
  simp only [apply_ite Prod.snd]

def clK (n : List UInt8) (set : List Bool) (k : Nat) : List Bool := set.zipIdx.map fun (b, j) => b || (decide (j < k) && (in3 n j).1)
theorem clK_len (n : List UInt8) (set : List Bool) (k : Nat) : (clK n set k).length = set.length := by simp [clK]
theorem clK_get (n : List UInt8) (set : List Bool) (k j : Nat) : (clK n set k)[j]? = set[j]?.map fun b => b || (decide (j < k) && (in3 n j).1) := by
  simp [clK, List.getElem?_zipIdx]
  cases set[j]? <;> simp
theorem clK_zero (n : List UInt8) (set : List Bool) : clK n set 0 = set := by
  refine List.ext_getElem? fun j => ?_
  rw [clK_get]
  cases set[j]? <;> simp
theorem clK_all (n : List UInt8) (set : List Bool) : clK n set set.length = clPut n set := by
  refine List.ext_getElem? fun j => ?_
  rw [clK_get]
  simp only [clPut, List.getElem?_map, List.getElem?_zipIdx, Nat.zero_add]
  cases h : set[j]? with
  | none => simp
  | some b =>
    have := (List.getElem?_eq_some_iff.1 h).1
    simp [this]
theorem clK_succ (n : List UInt8) (set : List Bool) (k : Nat) (hk : k < set.length) : clK n set (k + 1) = if (in3 n k).1 then (clK n set k).set k true else clK n set k := by
  refine List.ext_getElem? fun j => ?_
  split
  · rename_i h
    rw [List.getElem?_set, clK_get, clK_get, clK_len]
    split
    · rename_i e
      subst e
      rw [List.getElem?_eq_getElem hk]
      simp [h]
    · rename_i e
      have : (decide (j < k + 1)) = decide (j < k) := by
        rw [decide_eq_decide]; omega
      rw [this]
  · rename_i h
    rw [clK_get, clK_get]
    by_cases e : j = k
    · subst e
      simp [h]
    · have : (decide (j < k + 1)) = decide (j < k) := by
        rw [decide_eq_decide]; omega
      rw [this]

theorem oct3_i (l : List UInt8) : ∀ (k i n : Nat), i ≤ (oct3 l k i n).2 ∧ (oct3 l k i n).2 ≤ max i l.length := by
  intro k
  induction k with
  | zero => intro i n; simp only [oct3]; omega
  | succ k ih =>
    intro i n
    simp only [oct3]
    split
    · rename_i h
      simp only [Bool.and_eq_true, decide_eq_true_eq] at h
      have := ih (i + 1) (8 * n + ((byteAt l i).toNat - 48))
      omega
    · exact ⟨Nat.le_refl _, by omega⟩
theorem fail_i (s : S3) (k : Int) : (s.fail k).i = s.i ∧ (s.fail k).d = s.d := by unfold S3.fail; split <;> exact ⟨rfl, rfl⟩
theorem escape3_facts (l : List UInt8) (s : S3) (h : s.i < l.length) : s.i ≤ (escape3 l s).2.i ∧ (escape3 l s).2.i ≤ l.length + 1 ∧ (escape3 l s).2.d = s.d := by
  unfold escape3
  split
  · rename_i hm
    split
    · have := oct3_i l 3 (s.i + 1) 0
      exact ⟨by show _ ≤ (oct3 l 3 (s.i + 1) 0).2; omega, by show (oct3 l 3 (s.i + 1) 0).2 ≤ _; omega, rfl⟩
    · have : more3 l s.on = true := hm
      simp [more3, S3.on] at this
      exact ⟨by show s.i ≤ s.i + 2; omega, by show s.i + 2 ≤ _; omega, rfl⟩
  · obtain ⟨e1, e2⟩ := fail_i s.on 4
    refine ⟨by rw [e1]; show s.i ≤ s.i + 1; omega, by rw [e1]; show s.i + 1 ≤ _; omega, by rw [e2]; rfl⟩

theorem clEnd_le (l : List UInt8) : ∀ (k e : Nat), e ≤ clEnd l k e := by
  intro k
  induction k with
  | zero => intro e; exact Nat.le_refl _
  | succ k ih =>
    intro e
    simp only [clEnd]
    split
    · have := ih (e + 1); omega
    · exact Nat.le_refl _
theorem clPut_len (n : List UInt8) (set : List Bool) : (clPut n set).length = set.length := by simp [clPut]
theorem putR_len (set : List Bool) (a b : Nat) : (putR set a b).length = set.length := by simp [putR]
theorem item3_facts (l : List UInt8) (s : S3) (set : List Bool) (h : s.i < l.length) :
    s.i ≤ (item3 l s set).2.2.i ∧ (item3 l s set).2.2.i ≤ l.length + 1 ∧ (item3 l s set).2.2.d = s.d ∧ (item3 l s set).2.1.length = set.length := by
  unfold item3
  split
  · simp only []
    split
    · obtain ⟨e1, e2⟩ := fail_i s 2
      exact ⟨by rw [e1]; exact Nat.le_refl _, by rw [e1]; omega, e2, rfl⟩
    · split
      · rename_i h1 h2
        have := clEnd_le l l.length (s.i + 2)
        exact ⟨by show s.i ≤ clEnd l l.length (s.i + 2) + 2; omega, by show clEnd l l.length (s.i + 2) + 2 ≤ _; omega, rfl, clPut_len _ _⟩
      · obtain ⟨e1, e2⟩ := fail_i s 2
        exact ⟨by rw [e1]; exact Nat.le_refl _, by rw [e1]; omega, e2, rfl⟩
  · split
    · obtain ⟨e1, e2, e3⟩ := escape3_facts l s h
      exact ⟨e1, e2, e3, rfl⟩
    · exact ⟨by show s.i ≤ s.i + 1; omega, by show s.i + 1 ≤ _; omega, rfl, rfl⟩
end Go.Proofs.Ytddichibegppjaa
