/- Fields parted by blanks: plain. -/
import Derived.Test.YtddichibegppjaaVn
import Derived.Shelf.Strings.FieldsFuncAny
set_option linter.unusedSimpArgs false
set_option linter.unusedVariables false
namespace Go.Proofs.Ytddichibegppjaa
open Go Go.VC

/-- A blank? -/
def isBl (c : UInt8) : Bool := c == 32 || c == 9 || c == 10
def bp (x : Nat) : Bool := x == 32 || x == 9 || x == 10

/-- The words from here on, one begun. -/
def fl : List UInt8 → List UInt8 → List (List UInt8)
  | cur, [] => if cur = [] then [] else [cur]
  | cur, c :: l => if isBl c then (if cur = [] then fl [] l else cur :: fl [] l) else fl (cur ++ [c]) l
def blanks (s : List UInt8) : List (List UInt8) := fl [] s

theorem fl_many (l : List UInt8) : ∀ (m : List UInt8) (cur : List UInt8), (∀ c ∈ m, isBl c = false) → fl cur (m ++ l) = fl (cur ++ m) l
  | [], cur, _ => by simp
  | c :: m, cur, h => by
    have h1 := h c (by simp)
    simp only [List.cons_append, fl, h1]
    rw [if_neg (by simp), fl_many l m _ (fun c hc => h c (by simp [hc]))]
    simp

theorem bp_lt {x : Nat} (h : 128 ≤ x) : bp x = false := by
  simp [bp]; omega
theorem isBl_bp (c : UInt8) : bp c.toNat = isBl c := by
  have h (k : UInt8) : (c.toNat == k.toNat) = (c == k) := by
    rw [Bool.eq_iff_iff]
    simp [UInt8.toNat_inj]
  simp only [bp, isBl]
  rw [← h 32, ← h 9, ← h 10]
  rfl
theorem isBl_lt {c : UInt8} (h : 128 ≤ c.toNat) : isBl c = false := by rw [← isBl_bp, bp_lt h]

theorem decodeN_cases (n b0 b1 b2 b3 : Nat) (hn : 1 ≤ n) : ((Lib.decodeN n b0 b1 b2 b3).2 = 1 ∧ (Lib.decodeN n b0 b1 b2 b3).1 = b0 ∧ b0 < 128) ∨
    (1 ≤ (Lib.decodeN n b0 b1 b2 b3).2 ∧ (Lib.decodeN n b0 b1 b2 b3).2 ≤ n ∧ (Lib.decodeN n b0 b1 b2 b3).2 ≤ 4 ∧ 128 ≤ (Lib.decodeN n b0 b1 b2 b3).1 ∧ 128 ≤ b0 ∧
      (1 < (Lib.decodeN n b0 b1 b2 b3).2 → 128 ≤ b1) ∧ (2 < (Lib.decodeN n b0 b1 b2 b3).2 → 128 ≤ b2) ∧ (3 < (Lib.decodeN n b0 b1 b2 b3).2 → 128 ≤ b3)) := by
  unfold Lib.decodeN
  repeat' split
  all_goals first | omega | (left; exact ⟨rfl, rfl, by omega⟩) | (right; dsimp only; omega)

/-- A rune: one byte, or bytes that are none of ASCII's. -/
theorem decode_cases (s : ByteArray) (i : Nat) (hi : i < s.size) :
    ((Utf8.decode s i).2 = 1 ∧ (Utf8.decode s i).1 = (s.data.toList.getD i 0).toNat) ∨
    (1 ≤ (Utf8.decode s i).2 ∧ i + (Utf8.decode s i).2 ≤ s.size ∧ 128 ≤ (Utf8.decode s i).1 ∧ ∀ k, k < (Utf8.decode s i).2 → 128 ≤ (s.data.toList.getD (i + k) 0).toNat) := by
  have hg : ∀ k, k < s.size → (s.get! k).toNat = (s.data.toList.getD k 0).toNat := by
    intro k hk
    congr 1
    have : k < s.data.size := hk
    cases s with | mk d => simp [ByteArray.get!, Array.getElem!_eq_getD, Array.getD_eq_getD_getElem?, List.getD_eq_getElem?_getD] at this ⊢; rw [Array.getElem?_eq_getElem this]; rfl
  rw [Lib.decode_at]
  rcases decodeN_cases (s.size - i) (s.get! i).toNat (s.get! (i + 1)).toNat (s.get! (i + 2)).toNat (s.get! (i + 3)).toNat (by omega) with ⟨h1, h2, h3⟩ | ⟨h1, h2, h3, h4, h5, h6, h7, h8⟩
  · left; exact ⟨h1, by rw [h2, hg i hi]⟩
  · right
    generalize (Lib.decodeN (s.size - i) (s.get! i).toNat (s.get! (i + 1)).toNat (s.get! (i + 2)).toNat (s.get! (i + 3)).toNat).2 = wd at *
    refine ⟨h1, by omega, h4, fun k hk => ?_⟩
    obtain rfl | rfl | rfl | rfl : k = 0 ∨ k = 1 ∨ k = 2 ∨ k = 3 := by omega
    · rw [Nat.add_zero, ← hg i hi]; exact h5
    · rw [← hg (i + 1) (by omega)]; exact h6 hk
    · rw [← hg (i + 2) (by omega)]; exact h7 hk
    · rw [← hg (i + 3) (by omega)]; exact h8 hk

open Lib in
theorem spans_fl (l : List UInt8) : ∀ (f pos : Nat) (st : Option Nat) (acc : List (Nat × Nat)), l.length ≤ pos + f → pos ≤ l.length → (∀ a, st = some a → a < pos) →
    (closeSpans (B l) (spansFromP bp (B l) f pos st acc)).map (fun x => (l.drop x.1).take (x.2 - x.1)) =
      acc.map (fun x => (l.drop x.1).take (x.2 - x.1)) ++ fl (match st with | some a => (l.drop a).take (pos - a) | none => []) (l.drop pos) := by
  intro f
  induction f with
  | zero =>
    intro pos st acc h1 h2 h3
    obtain rfl : pos = l.length := by omega
    simp only [spansFromP, closeSpans, List.drop_length, fl]
    cases st with
    | none => simp
    | some a =>
      have := h3 a rfl
      have hne : (l.drop a).take (l.length - a) ≠ [] := by
        intro e; have := congrArg List.length e; simp at this; omega
      simp only [B_size]
      rw [if_neg hne]; simp
  | succ f ih =>
    intro pos st acc h1 h2 h3
    unfold spansFromP
    by_cases hp : pos < l.length
    · rw [if_pos (by rw [B_size]; exact hp)]
      have hd : l.drop pos = l[pos] :: l.drop (pos + 1) := List.drop_eq_getElem_cons hp
      have hgd : (B l).data.toList.getD pos 0 = l[pos] := by simp [B_toList, hp]
      have key : ∀ wd, 1 ≤ wd → pos + wd ≤ l.length → (∀ k, k < wd → 128 ≤ (l.getD (pos + k) 0).toNat) → ∀ cur, fl cur (l.drop pos) = fl (cur ++ (l.drop pos).take wd) (l.drop (pos + wd)) := by
        intro wd _ hle hb cur
        have : l.drop pos = (l.drop pos).take wd ++ l.drop (pos + wd) := by rw [← List.drop_drop, List.take_append_drop]
        conv => lhs; rw [this]
        refine fl_many _ _ _ fun c hc => isBl_lt ?_
        obtain ⟨k, hk, rfl⟩ := List.getElem_of_mem hc
        simp at hk
        have := hb k (by omega)
        simpa [List.getElem?_eq_getElem (show pos + k < l.length by omega)] using this
      have hdc := decode_cases (B l) pos (by rw [B_size]; exact hp)
      rw [hgd] at hdc
      generalize Utf8.decode (B l) pos = D at *
      obtain ⟨r, wd⟩ := D
      simp only at hdc ⊢
      by_cases hbp : bp r = true
      · rw [if_pos hbp]
        rcases hdc with ⟨rfl, hr⟩ | ⟨_, _, h5, _⟩
        · have hbl : isBl l[pos] = true := by rw [← isBl_bp, ← hr]; exact hbp
          cases st with
          | none =>
            rw [ih (pos + 1) none acc (by omega) (by omega) (by simp), hd]
            simp [fl, hbl]
          | some a =>
            have ha := h3 a rfl
            have hne : (l.drop a).take (pos - a) ≠ [] := by
              intro e; have := congrArg List.length e; simp at this; omega
            rw [ih (pos + 1) none _ (by omega) (by omega) (by simp), hd]
            simp only [fl, hbl, if_true, if_neg hne]
            simp
        · rw [bp_lt h5] at hbp; cases hbp
      · rw [if_neg hbp]
        have hmove : 1 ≤ wd ∧ pos + wd ≤ l.length ∧ ∀ cur, fl cur (l.drop pos) = fl (cur ++ (l.drop pos).take wd) (l.drop (pos + wd)) := by
          rcases hdc with ⟨rfl, hr⟩ | ⟨h4, h5, h6, h7⟩
          · have hbl : isBl l[pos] = false := by rw [← isBl_bp, ← hr]; simpa using hbp
            refine ⟨by omega, by omega, fun cur => ?_⟩
            rw [hd]; simp only [fl, hbl, List.take_succ_cons, List.take_zero, Bool.false_eq_true, if_false]
          · rw [B_size] at h5
            refine ⟨h4, h5, key wd h4 h5 (fun k hk => by have := h7 k hk; rwa [B_toList] at this)⟩
        obtain ⟨w1, w2, w3⟩ := hmove
        cases st with
        | none =>
          rw [ih (pos + wd) (some pos) acc (by omega) (by omega) (by simp; omega), w3]
          simp
        | some a =>
          have ha := h3 a rfl
          rw [ih (pos + wd) (some a) acc (by omega) (by omega) (by simp; omega), w3]
          simp only []
          congr 2
          rw [show pos + wd - a = (pos - a) + wd by omega, List.take_add, List.drop_drop, show a + (pos - a) = pos by omega]
    · rw [if_neg (by rw [B_size]; exact hp)]
      obtain rfl : pos = l.length := by omega
      simp only [closeSpans, List.drop_length, fl]
      cases st with
      | none => simp
      | some a =>
        have := h3 a rfl
        have hne : (l.drop a).take (l.length - a) ≠ [] := by
          intro e; have := congrArg List.length e; simp at this; omega
        simp only [B_size]
        rw [if_neg hne]; simp

theorem goFields_blanks (l : List UInt8) : Lib.goFieldsP bp (B l) = (blanks l).map B := by
  have h := spans_fl l l.length 0 none [] (by omega) (by omega) (by simp)
  simp only [List.map_nil, List.nil_append, List.drop_zero] at h
  unfold Lib.goFieldsP Lib.spansOfP blanks
  rw [B_size, ← h, List.map_map]
  refine List.map_congr_left fun x _ => ?_
  rw [B_extract]; rfl
end Go.Proofs.Ytddichibegppjaa
