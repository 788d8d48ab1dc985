/- Substr, the plain law: which bytes lie within two floats. -/
import Derived.Test.YtddichibegppjaaFl
set_option linter.unusedSimpArgs false
set_option linter.unusedVariables false
namespace Go.Fl

def lowA (len : Nat) : Ext → Nat
  | .nan => len | .inf true => 0 | .inf false => len | .int n => (n - 1).toNat
def highA (len : Nat) : Ext → Nat
  | .nan => 0 | .inf true => 0 | .inf false => len | .int n => min len (n - 1).toNat
def SubOf (s : List UInt8) (m n : Nat) (has : Bool) (out : List UInt8) : Prop :=
  (isN m = true ∧ out = []) ∨
  (isN m = false ∧ has = true ∧ (isN n = true ∨ Ieee.double.add (rnd m) (rnd n) = none) ∧ out = []) ∨
  (isN m = false ∧ ∃ c d, Is (rnd m) c ∧ c ≠ .nan ∧ d ≠ .nan ∧ ((has = false ∧ d = .inf false) ∨ (has = true ∧ isN n = false ∧ ∃ z, Ieee.double.add (rnd m) (rnd n) = some z ∧ Is z d)) ∧
    out = (s.drop (lowA s.length c)).take (highA s.length d - lowA s.length c))
theorem SubOf.ex (s : List UInt8) (m n : Nat) (has : Bool) : ∃ out, SubOf s m n has out := by
  cases hm : isN m with
  | true => exact ⟨[], .inl ⟨hm, rfl⟩⟩
  | false =>
    obtain ⟨c, hc, hcn⟩ := rnd_Is hm
    cases has with
    | false => exact ⟨_, .inr (.inr ⟨hm, c, .inf false, hc, hcn, by simp, .inl ⟨rfl, rfl⟩, rfl⟩)⟩
    | true =>
      cases hn : isN n with
      | true => exact ⟨[], .inr (.inl ⟨hm, rfl, .inl hn, rfl⟩)⟩
      | false =>
        obtain ⟨d, hd, hdn⟩ := rnd_Is hn
        rcases add_Is hc hd with ⟨h, _⟩ | ⟨z, e, h1, h2, h3, _⟩
        · exact ⟨[], .inr (.inl ⟨hm, rfl, .inr h, rfl⟩)⟩
        · exact ⟨_, .inr (.inr ⟨hm, c, e, hc, hcn, h3, .inr ⟨rfl, hn, z, h1, h2⟩, rfl⟩)⟩

theorem cmp_int (a b : Int) : compare a b = if a < b then .lt else if a = b then .eq else .gt := rfl
/-- The program's two ends. -/
def loE (c : Ext) : Ext := if (Ext.int 1).cmp c = some .lt then c else .int 1
def hiE (len : Nat) (d : Ext) : Ext := if (Ext.int ((len : Int) + 1)).cmp d = some .gt then d else .int ((len : Int) + 1)
def geE (c d : Ext) : Bool := c.cmp d == some .gt || c.cmp d == some .eq
theorem loE_nn {c : Ext} (h : c ≠ .nan) : loE c ≠ .nan := by unfold loE; split <;> simp [h]
theorem hiE_nn {len : Nat} {d : Ext} (h : d ≠ .nan) : hiE len d ≠ .nan := by unfold hiE; split <;> simp [h]
theorem loE_int (n : Int) : loE (.int n) = .int (max 1 n) := by
  unfold loE
  simp only [Ext.cmp, cmp_int, Option.some.injEq]
  by_cases h : 1 < n
  · rw [if_pos h, if_pos rfl, Int.max_eq_right (by omega)]
  · have : (if (1 : Int) < n then Ordering.lt else if (1 : Int) = n then .eq else .gt) ≠ .lt := by rw [if_neg h]; split <;> simp
    rw [if_neg this, Int.max_eq_left (by omega)]
theorem hiE_int (len : Nat) (n : Int) : hiE len (.int n) = .int (min ((len : Int) + 1) n) := by
  unfold hiE
  simp only [Ext.cmp, cmp_int, Option.some.injEq]
  by_cases h : n < (len : Int) + 1
  · rw [if_neg (by omega : ¬ (len : Int) + 1 < n), if_neg (by omega : ¬ (len : Int) + 1 = n), if_pos rfl, Int.min_eq_right (by omega)]
  · have : (if (len : Int) + 1 < n then Ordering.lt else if (len : Int) + 1 = n then .eq else .gt) ≠ .gt := by
      by_cases h1 : (len : Int) + 1 < n
      · rw [if_pos h1]; simp
      · rw [if_neg h1, if_pos (by omega)]; simp
    rw [if_neg this, Int.min_eq_left (by omega)]
theorem geE_int (x y : Int) : geE (.int x) (.int y) = decide (y ≤ x) := by
  simp only [geE, Ext.cmp, cmp_int]
  by_cases h1 : x < y
  · rw [if_pos h1, decide_eq_false (by omega)]; rfl
  · rw [if_neg h1, decide_eq_true (by omega)]; split <;> rfl
theorem lo_form {len : Nat} {c : Ext} (h : c ≠ .nan) : (c = .inf false) ∨ ∃ a : Nat, loE c = .int ((a : Int) + 1) ∧ lowA len c = a := by
  cases c with
  | nan => exact absurd rfl h
  | inf u =>
    cases u with
    | false => exact .inl rfl
    | true => exact .inr ⟨0, rfl, rfl⟩
  | int n => exact .inr ⟨(n - 1).toNat, by rw [loE_int]; congr 1; omega, rfl⟩
theorem hi_form {len : Nat} {d : Ext} (h : d ≠ .nan) : (hiE len d = .inf true ∧ highA len d = 0) ∨ (∃ b : Int, hiE len d = .int b ∧ b ≤ len + 1 ∧ highA len d = (b - 1).toNat) := by
  cases d with
  | nan => exact absurd rfl h
  | inf u =>
    cases u with
    | true => exact .inl ⟨rfl, rfl⟩
    | false => exact .inr ⟨(len : Int) + 1, rfl, by omega, by simp only [highA]; omega⟩
  | int n => exact .inr ⟨_, hiE_int len n, by omega, by simp only [highA]; omega⟩
theorem ends_empty (s : List UInt8) {c d : Ext} (hc : c ≠ .nan) (hd : d ≠ .nan) (h : geE (loE c) (hiE s.length d) = true) : (s.drop (lowA s.length c)).take (highA s.length d - lowA s.length c) = [] := by
  have key : highA s.length d ≤ lowA s.length c := by
    rcases hi_form (len := s.length) hd with ⟨_, h2⟩ | ⟨b, h1, h2, h3⟩
    · omega
    · rcases lo_form (len := s.length) hc with rfl | ⟨a, h4, h5⟩
      · rw [h3]; simp only [lowA]; omega
      · rw [h1, h4, geE_int] at h
        have := of_decide_eq_true h
        omega
  rw [show highA s.length d - lowA s.length c = 0 by omega, List.take_zero]
theorem ends_some (s : List UInt8) {c d : Ext} (hc : c ≠ .nan) (hd : d ≠ .nan) (h : geE (loE c) (hiE s.length d) = false) :
    ∃ a b : Nat, loE c = .int ((a : Int) + 1) ∧ hiE s.length d = .int ((b : Int) + 1) ∧ a ≤ b ∧ b ≤ s.length ∧ lowA s.length c = a ∧ highA s.length d = b := by
  rcases lo_form (len := s.length) hc with rfl | ⟨a, h4, h5⟩
  · rw [show loE (.inf false) = .inf false from rfl] at h
    rcases hi_form (len := s.length) hd with ⟨h1, _⟩ | ⟨b, h1, _⟩ <;> rw [h1] at h <;> cases h
  · rcases hi_form (len := s.length) hd with ⟨h1, _⟩ | ⟨b, h1, h2, h3⟩
    · rw [h1, h4] at h; cases h
    · rw [h1, h4, geE_int] at h
      have := of_decide_eq_false h
      exact ⟨a, (b - 1).toNat, h4, by rw [h1]; congr 1; omega, by omega, by omega, h5, h3⟩

/-- The reference's tests of the place i + 1. -/
theorem geE_low {len i : Nat} {c : Ext} (hc : c ≠ .nan) (hi : i < len) : geE (.int ((i : Int) + 1)) c = decide (lowA len c ≤ i) := by
  cases c with
  | nan => exact absurd rfl hc
  | inf u =>
    cases u with
    | false => exact (decide_eq_false (show ¬ len ≤ i by omega)).symm
    | true => exact (decide_eq_true (Nat.zero_le i)).symm
  | int n =>
    rw [geE_int]
    refine decide_eq_decide.2 ?_
    show n ≤ (i : Int) + 1 ↔ (n - 1).toNat ≤ i
    omega
theorem lt_high {len i : Nat} {d : Ext} (hd : d ≠ .nan) (hi : i < len) : ((Ext.int ((i : Int) + 1)).cmp d == some .lt) = decide (i < highA len d) := by
  cases d with
  | nan => exact absurd rfl hd
  | inf u =>
    cases u with
    | false => exact (decide_eq_true hi).symm
    | true => exact (decide_eq_false (Nat.not_lt_zero i)).symm
  | int n =>
    have h2 : decide (i < highA len (.int n)) = decide ((i : Int) + 1 < n) := decide_eq_decide.2 (by simp only [highA]; omega)
    rw [h2]
    simp only [Ext.cmp, cmp_int]
    by_cases h1 : (i : Int) + 1 < n
    · rw [if_pos h1, decide_eq_true h1]; rfl
    · rw [if_neg h1, decide_eq_false h1]; split <;> rfl
/-- The reference's text grows. -/
def win (s : List UInt8) (A H i : Nat) : List UInt8 := (s.drop A).take (min i H - A)
theorem win_step {s : List UInt8} {A H i : Nat} (hi : i < s.length) : win s A H (i + 1) = win s A H i ++ (if A ≤ i ∧ i < H then (s.drop i).take 1 else []) := by
  unfold win
  by_cases h : A ≤ i ∧ i < H
  · rw [if_pos h, show min (i + 1) H - A = (i - A) + 1 by omega, show min i H - A = i - A by omega, List.take_add, List.drop_drop, show A + (i - A) = i by omega]
  · rw [if_neg h, List.append_nil]
    by_cases h1 : A ≤ i
    · rw [show min (i + 1) H = min i H by omega]
    · rw [show min (i + 1) H - A = 0 by omega, show min i H - A = 0 by omega]
end Go.Fl
