/- Floats that are whole numbers: what the model's arithmetic gives of them. -/
import Derived.WalkKit
import Derived.Laws.FloatArith
import Derived.Laws.Externs
set_option linter.unusedSimpArgs false
set_option linter.unusedVariables false
namespace Go.Fl
open Ieee

/-- A word reads as a whole number. -/
def isI (x : Nat) (n : Int) : Prop := ∃ s m p, double.read x = .number s m p ∧ -1074 ≤ p ∧ signed s m (p + 1074).toNat = n * 2 ^ 1074

theorem signed_eq (s : Bool) (m k : Nat) : signed s m k = (if s then -(m : Int) else m) * 2 ^ k := by
  unfold signed
  rw [Nat.shiftLeft_eq]
  cases s <;> simp [Int.neg_mul]
theorem signed_add (s : Bool) (m a b : Nat) : signed s m (a + b) = signed s m a * 2 ^ b := by
  rw [signed_eq, signed_eq, Int.pow_add, Int.mul_assoc]
theorem two_pos (k : Nat) : (0 : Int) < 2 ^ k := Int.pow_pos (by decide)

theorem cmp_mul {u v : Int} {k : Int} (h : 0 < k) : compare (u * k) (v * k) = compare u v := by
  have hl : u * k < v * k ↔ u < v := ⟨fun h' => Int.lt_of_mul_lt_mul_right h' (Int.le_of_lt h), fun h' => Int.mul_lt_mul_of_pos_right h' h⟩
  have he : u * k = v * k ↔ u = v := ⟨fun h' => Int.eq_of_mul_eq_mul_right (by omega) h', fun h' => by rw [h']⟩
  show compareOfLessAndEq _ _ = compareOfLessAndEq _ _
  unfold compareOfLessAndEq
  simp only [hl, he]

theorem order_I {x y : Nat} {a b : Int} (hx : isI x a) (hy : isI y b) : double.order x y = some (compare a b) := by
  obtain ⟨s, m, i, h1, hi, e1⟩ := hx
  obtain ⟨t, n, j, h2, hj, e2⟩ := hy
  unfold Format.order
  rw [h1, h2]
  simp only [Datum.order]
  refine congrArg some ?_
  have b1 : (i + 1074).toNat = (i - min i j).toNat + (min i j + 1074).toNat := by omega
  have b2 : (j + 1074).toNat = (j - min i j).toNat + (min i j + 1074).toNat := by omega
  rw [b1, signed_add] at e1
  rw [b2, signed_add] at e2
  rw [← cmp_mul (two_pos (min i j + 1074).toNat), e1, e2, cmp_mul (two_pos 1074)]

theorem pow52 : (2 : Nat) ^ 52 = 4503599627370496 := by decide
theorem least : double.leastPlace = -1074 := by decide
theorem binade : double.binade = 4503599627370496 := by decide
theorem infr : double.infRung = 2047 * 4503599627370496 := by decide
theorem signw : double.signWeight = 9223372036854775808 := by decide
theorem word_div (neg : Bool) (r : Nat) (h : r < 9223372036854775808) : (double.word neg r / 9223372036854775808 % 2 == 1) = neg ∧ double.word neg r % 9223372036854775808 = r := by
  unfold Format.word; rw [signw]
  cases neg
  · simp only [Bool.false_eq_true, if_false]
    rw [Nat.div_eq_of_lt h, Nat.mod_eq_of_lt h]; exact ⟨rfl, rfl⟩
  · simp only [if_true]
    rw [show (9223372036854775808 + r) / 9223372036854775808 = 1 by omega, show (9223372036854775808 + r) % 9223372036854775808 = r by omega]
    exact ⟨rfl, rfl⟩
theorem read_word (neg : Bool) (r : Nat) (h : r < 9223372036854775808) : double.read (double.word neg r) =
    if r < 4503599627370496 then .number neg r (-1074)
    else if r < 2047 * 4503599627370496 then .number neg (4503599627370496 + r % 4503599627370496) (-1074 + (r / 4503599627370496 - 1 : Nat))
    else if r = 2047 * 4503599627370496 then .infinity neg else .nan neg (r - 2047 * 4503599627370496) := by
  obtain ⟨h1, h2⟩ := word_div neg r h
  unfold Format.read
  rw [signw, binade, infr, least]
  simp only [h1, h2]

theorem cut_zero (way : Toward) (neg : Bool) (n : Nat) : way.cut neg n 0 = n := by
  unfold Toward.cut
  simp only [Nat.zero_min, Nat.shiftLeft_zero, Nat.div_one, Nat.mod_one]
  cases way <;> simp
theorem log2_lt (n : Nat) : n < 2 ^ (n.log2 + 1) := Nat.lt_log2_self
theorem log2_le {n : Nat} (h : n ≠ 0) : 2 ^ n.log2 ≤ n := Nat.log2_self_le h
theorem cut_exact (way : Toward) (neg : Bool) (q d : Nat) (hq : q ≠ 0) : way.cut neg (q * 2 ^ d) d = q := by
  have hpos : 0 < 2 ^ d := Nat.two_pow_pos d
  have hd : d ≤ (q * 2 ^ d).log2 + 2 := by
    have h1 := log2_lt (q * 2 ^ d)
    have h2 : 2 ^ d ≤ q * 2 ^ d := Nat.le_mul_of_pos_left _ (by omega)
    have h3 : 2 ^ d < 2 ^ ((q * 2 ^ d).log2 + 1) := Nat.lt_of_le_of_lt h2 h1
    have := (Nat.pow_lt_pow_iff_right (by omega : 1 < 2)).1 h3
    omega
  unfold Toward.cut
  simp only [Nat.min_eq_left hd, Nat.shiftLeft_eq, Nat.one_mul, Nat.mul_div_cancel _ hpos, Nat.mul_mod_left]
  cases way <;> simp
theorem cut_even {neg : Bool} {n d : Nat} (hn : n ≠ 0) (hd : d ≤ n.log2) : n / 2 ^ d ≤ Toward.even.cut neg n d ∧ Toward.even.cut neg n d ≤ n / 2 ^ d + 1 := by
  unfold Toward.cut
  simp only [Nat.min_eq_left (by omega : d ≤ n.log2 + 2), Nat.shiftLeft_eq, Nat.one_mul]
  have : ∀ b : Bool, b.toNat ≤ 1 := fun b => by cases b <;> decide
  exact ⟨Nat.le_add_right _ _, Nat.add_le_add_left (this _) _⟩

/-- A sign and a magnitude. -/
def sg (neg : Bool) (a : Nat) : Int := if neg then -(a : Int) else a

theorem cast_mul {k b x y : Nat} (h : k * 2 ^ x = b * 2 ^ y) : (k : Int) * 2 ^ x = (b : Int) * 2 ^ y := by
  have := congrArg Int.ofNat h
  simpa using this
theorem signed_zero (s : Bool) (k : Nat) : signed s 0 k = 0 := by rw [signed_eq]; cases s <;> simp
theorem isI_of {x : Nat} {neg : Bool} {k : Nat} {q : Int} {b Y : Nat} (h : double.read x = .number neg k q) (hq : -1074 ≤ q) (he : k * 2 ^ (q + 1074).toNat = b * 2 ^ Y) (hY : Y = 1074) : isI x (sg neg b) := by
  subst hY
  refine ⟨neg, k, q, h, hq, ?_⟩
  rw [signed_eq]
  have he' := cast_mul he
  unfold sg
  cases neg
  · simp only [Bool.false_eq_true, if_false]; exact he'
  · simp only [if_true, Int.neg_mul]; rw [he']

theorem read_norm {neg : Bool} {E k : Nat} (hk : 4503599627370496 ≤ k) (hk' : k ≤ 9007199254740992) :
    double.read (double.word neg (min ((E + 1022) * 4503599627370496 + k) (2047 * 4503599627370496))) = .infinity neg ∨
    ∃ (k' e' : Nat), double.read (double.word neg (min ((E + 1022) * 4503599627370496 + k) (2047 * 4503599627370496))) = .number neg k' ((e' : Int) - 52) ∧ k' * 2 ^ e' = k * 2 ^ E ∧ E ≤ e' ∧ 4503599627370496 ≤ k' := by
  rcases Nat.lt_or_ge ((E + 1022) * 4503599627370496 + k) (2047 * 4503599627370496) with h | h
  · refine .inr ?_
    rw [Nat.min_eq_left (by omega), read_word _ _ (by omega), if_neg (by omega), if_pos h]
    rcases Nat.lt_or_ge k 9007199254740992 with h2 | h2
    · refine ⟨k, E, ?_, rfl, Nat.le_refl _, hk⟩
      congr 1 <;> omega
    · refine ⟨4503599627370496, E + 1, ?_, ?_, by omega, by omega⟩
      · congr 1 <;> omega
      · rw [show k = 9007199254740992 by omega, Nat.pow_succ]; omega
  · refine .inl ?_
    rw [Nat.min_eq_right h, read_word _ _ (by omega), if_neg (by omega), if_neg (by omega), if_pos rfl]

theorem exps {k' e' k E a D C : Nat} (h1 : k' * 2 ^ e' = k * 2 ^ E) (hk : k = a * 2 ^ (D - E)) (hE : E ≤ D) : k' * 2 ^ (e' + C) = a * 2 ^ (D + C) := by
  rw [Nat.pow_add, ← Nat.mul_assoc, h1, hk, Nat.mul_assoc a, ← Nat.pow_add, Nat.mul_assoc, ← Nat.pow_add]
  congr 2; omega
/-- Written: a whole number that isn't 0. -/
theorem near_I (neg : Bool) (mag : Nat) (place : Int) (a : Nat) (ha : 0 < a) (hv : (0 ≤ place ∧ a = mag * 2 ^ place.toNat) ∨ (place < 0 ∧ mag = a * 2 ^ (-place).toNat)) :
    (a < 9007199254740992 ∧ isI (double.nearest neg mag place) (sg neg a)) ∨
    (9007199254740992 ≤ a ∧ (double.read (double.nearest neg mag place) = .infinity neg ∨ ∃ b, 9007199254740992 ≤ b ∧ isI (double.nearest neg mag place) (sg neg b))) := by
  have hmag : mag ≠ 0 := by
    rintro rfl
    rcases hv with ⟨_, h⟩ | ⟨_, h⟩
    · simp at h; omega
    · have := Nat.mul_pos ha (Nat.two_pow_pos (-place).toNat); omega
  obtain ⟨L, hL⟩ : ∃ L, L = mag.log2 := ⟨_, rfl⟩
  have l1 := log2_le hmag
  have l2 := log2_lt mag
  rw [← hL] at l1 l2
  -- the exponent of a
  obtain ⟨E, hE, a1, a2⟩ : ∃ E : Nat, (E : Int) = place + L ∧ 2 ^ E ≤ a ∧ a < 2 ^ (E + 1) := by
    rcases hv with ⟨hp, h⟩ | ⟨hp, h⟩
    · refine ⟨place.toNat + L, by omega, ?_, ?_⟩
      · rw [h, Nat.add_comm, Nat.pow_add]; exact Nat.mul_le_mul_right _ l1
      · rw [h, show place.toNat + L + 1 = (L + 1) + place.toNat by omega, Nat.pow_add]; exact Nat.mul_lt_mul_of_pos_right l2 (Nat.two_pow_pos _)
    · obtain ⟨d, hd⟩ : ∃ d, d = (-place).toNat := ⟨_, rfl⟩
      rw [← hd] at h
      have hdL : d < L + 1 := by
        have h2 : 2 ^ d ≤ mag := by rw [h]; exact Nat.le_mul_of_pos_left _ ha
        exact (Nat.pow_lt_pow_iff_right (by omega : 1 < 2)).1 (Nat.lt_of_le_of_lt h2 l2)
      refine ⟨L - d, by omega, ?_, ?_⟩
      · refine Nat.le_of_mul_le_mul_right ?_ (Nat.two_pow_pos d)
        rw [← Nat.pow_add, ← h, show L - d + d = L by omega]; exact l1
      · refine Nat.lt_of_mul_lt_mul_right (a := 2 ^ d) ?_
        rw [← Nat.pow_add, ← h, show L - d + 1 + d = L + 1 by omega]; exact l2
  -- what is kept
  obtain ⟨k, hk⟩ : ∃ k, k = Toward.even.cut neg (mag <<< (place - (E - 52 : Int)).toNat) ((E - 52 : Int) - place).toNat := ⟨_, rfl⟩
  have hx : double.nearest neg mag place = double.word neg (min ((E + 1022) * 4503599627370496 + k) (2047 * 4503599627370496)) := by
    unfold Format.nearest
    rw [if_neg hmag]
    simp only [← hL]
    rw [binade, infr, least, show (double.fractionBits : Int) = 52 from rfl]
    rw [show max (place + (L : Int) - 52) (-1074) = (E : Int) - 52 by omega, ← hk]
    rw [show ((E : Int) - 52 - -1074).toNat = E + 1022 by omega]
  -- its bounds; below 2^53 it is exact
  have kk : 4503599627370496 ≤ k ∧ k ≤ 9007199254740992 ∧ (E ≤ 52 → k = a * 2 ^ (52 - E)) := by
    rcases Nat.lt_or_ge 52 L with hL2 | hL2
    · -- cut
      have e1 : (place - ((E : Int) - 52)).toNat = 0 := by omega
      have e2 : ((E : Int) - 52 - place).toNat = L - 52 := by omega
      rw [e1, e2, Nat.shiftLeft_zero] at hk
      have hc := cut_even (neg := neg) hmag (by omega : L - 52 ≤ mag.log2)
      rw [← hk] at hc
      have d1 : 4503599627370496 ≤ mag / 2 ^ (L - 52) := by
        rw [Nat.le_div_iff_mul_le (Nat.two_pow_pos _), ← pow52, ← Nat.pow_add, show 52 + (L - 52) = L by omega]; exact l1
      have d2 : mag / 2 ^ (L - 52) < 9007199254740992 := by
        rw [Nat.div_lt_iff_lt_mul (Nat.two_pow_pos _), show (9007199254740992 : Nat) = 2 ^ 53 by decide, ← Nat.pow_add, show 53 + (L - 52) = L + 1 by omega]; exact l2
      refine ⟨by omega, by omega, fun hE2 => ?_⟩
      rcases hv with ⟨hp, h⟩ | ⟨hp, h⟩
      · omega
      · have hd : (-place).toNat = (52 - E) + (L - 52) := by omega
        rw [hk, h, hd, Nat.pow_add, ← Nat.mul_assoc]
        exact cut_exact _ _ _ _ (by have := Nat.mul_pos ha (Nat.two_pow_pos (52 - E)); omega)
    · have e1 : (place - ((E : Int) - 52)).toNat = 52 - L := by omega
      have e2 : ((E : Int) - 52 - place).toNat = 0 := by omega
      rw [e1, e2, cut_zero, Nat.shiftLeft_eq] at hk
      have d1 : 4503599627370496 ≤ k := by
        rw [hk, ← pow52, show (2 : Nat) ^ 52 = 2 ^ L * 2 ^ (52 - L) by rw [← Nat.pow_add]; congr 1; omega]; exact Nat.mul_le_mul_right _ l1
      have d2 : k < 9007199254740992 := by
        rw [hk, show (9007199254740992 : Nat) = 2 ^ (L + 1) * 2 ^ (52 - L) by rw [← Nat.pow_add, show L + 1 + (52 - L) = 53 by omega]]; exact Nat.mul_lt_mul_of_pos_right l2 (Nat.two_pow_pos _)
      refine ⟨d1, by omega, fun hE2 => ?_⟩
      rcases hv with ⟨hp, h⟩ | ⟨hp, h⟩
      · rw [hk, h, Nat.mul_assoc, ← Nat.pow_add]; congr 2; omega
      · rw [hk, h, Nat.mul_assoc, ← Nat.pow_add]; congr 2; omega
  obtain ⟨k1, k2, k3⟩ := kk
  rw [hx]
  rcases Nat.lt_or_ge a 9007199254740992 with ha2 | ha2
  · refine .inl ⟨ha2, ?_⟩
    have hE2 : E ≤ 52 := by
      have : 2 ^ E < 2 ^ 53 := Nat.lt_of_le_of_lt a1 (by omega)
      have := (Nat.pow_lt_pow_iff_right (by omega : 1 < 2)).1 this
      omega
    have hke := k3 hE2
    rcases read_norm (neg := neg) (E := E) k1 k2 with h | ⟨k', e', h, h1, h2, h3⟩
    · rw [Nat.min_eq_left (by omega), read_word _ _ (by omega), if_neg (by omega), if_pos (by omega)] at h
      cases h
    · refine isI_of (Y := 52 + 1022) h (by omega) ?_ rfl
      rw [show ((e' : Int) - 52 + 1074).toNat = e' + 1022 by omega]
      exact exps (D := 52) (C := 1022) h1 hke hE2
  · refine .inr ⟨ha2, ?_⟩
    have hE2 : 53 ≤ E := by
      have : 2 ^ 53 < 2 ^ (E + 1) := Nat.lt_of_le_of_lt (by omega) a2
      have := (Nat.pow_lt_pow_iff_right (by omega : 1 < 2)).1 this
      omega
    rcases read_norm (neg := neg) (E := E) k1 k2 with h | ⟨k', e', h, h1, h2, h3⟩
    · exact .inl h
    · obtain ⟨Y, hY⟩ : ∃ Y, Y = 1074 := ⟨_, rfl⟩
      refine .inr ⟨k' * 2 ^ (e' - 52), ?_, isI_of (Y := Y) h (by omega) ?_ hY⟩
      · have : 2 ^ 1 ≤ 2 ^ (e' - 52) := Nat.pow_le_pow_right (by decide) (by omega)
        calc 9007199254740992 = 4503599627370496 * 2 := by decide
          _ ≤ k' * 2 ^ (e' - 52) := Nat.mul_le_mul h3 (by simpa using this)
      · rw [Nat.mul_assoc, ← Nat.pow_add]; congr 2; omega

theorem near_zero (neg : Bool) (place : Int) : isI (double.nearest neg 0 place) 0 := by
  refine ⟨neg, 0, -1074, ?_, by omega, ?_⟩
  · unfold Format.nearest; rw [if_pos rfl, read_word _ _ (by omega), if_pos (by omega)]
  · rw [signed_zero, Int.zero_mul]

/-- What a word is, if it is made whole. -/
inductive Ext where
  | nan | inf (neg : Bool) | int (n : Int)
def Is (x : Nat) : Ext → Prop
  | .nan => ∃ s t, double.read x = .nan s t
  | .inf s => double.read x = .infinity s
  | .int n => isI x n

/-- A whole number, written. -/
theorem write_I (s : Bool) (m : Nat) (p : Int) (n : Int) (hv : (0 ≤ p ∧ n = sg s m * 2 ^ p.toNat) ∨ (p < 0 ∧ sg s m = n * 2 ^ (-p).toNat)) :
    (isI (double.write (.number s m p)) n ∧ -9007199254740992 < n ∧ n < 9007199254740992) ∨
    (9007199254740992 ≤ n ∧ (Is (double.write (.number s m p)) (.inf false) ∨ ∃ b, 9007199254740992 ≤ b ∧ isI (double.write (.number s m p)) b)) ∨
    (n ≤ -9007199254740992 ∧ (Is (double.write (.number s m p)) (.inf true) ∨ ∃ b, b ≤ -9007199254740992 ∧ isI (double.write (.number s m p)) b)) := by
  have hw : double.write (.number s m p) = double.nearest s m p := rfl
  rw [hw]
  by_cases hm : m = 0
  · subst hm
    have h0 : n = 0 := by
      rcases hv with ⟨_, h⟩ | ⟨_, h⟩
      · rw [h]; unfold sg; cases s <;> simp
      · have h1 : sg s 0 = 0 := by unfold sg; cases s <;> simp
        rw [h1] at h
        have := two_pos (-p).toNat
        rcases Int.mul_eq_zero.1 h.symm with h2 | h2
        · exact h2
        · omega
    subst h0
    exact .inl ⟨near_zero _ _, by omega, by omega⟩
  -- the magnitude
  have hn : n = sg s n.natAbs ∧ ((0 ≤ p ∧ n.natAbs = m * 2 ^ p.toNat) ∨ (p < 0 ∧ m = n.natAbs * 2 ^ (-p).toNat)) := by
    have ab : ∀ (u v : Int) (k : Nat), u = v * 2 ^ k → u.natAbs = v.natAbs * 2 ^ k := by
      intro u v k h
      rw [h, Int.natAbs_mul, Int.natAbs_pow]; rfl
    have sm : (sg s m).natAbs = m := by unfold sg; cases s <;> simp
    refine ⟨?_, ?_⟩
    · rcases hv with ⟨_, h⟩ | ⟨_, h⟩
      · have h2 := two_pos p.toNat
        have h3 : 0 ≤ (m : Int) * 2 ^ p.toNat := Int.mul_nonneg (by omega) (by omega)
        unfold sg at h ⊢
        cases s
        · simp only [Bool.false_eq_true, if_false] at h ⊢; omega
        · simp only [if_true, Int.neg_mul] at h ⊢; omega
      · have h2 := two_pos (-p).toNat
        unfold sg at h ⊢
        cases s
        · simp only [Bool.false_eq_true, if_false] at h ⊢
          have : 0 ≤ n := by
            refine Int.not_lt.1 fun hneg => ?_
            have := Int.mul_neg_of_neg_of_pos hneg h2
            omega
          omega
        · simp only [if_true] at h ⊢
          have : n ≤ 0 := by
            refine Int.not_lt.1 fun hneg => ?_
            have := Int.mul_pos hneg h2
            omega
          omega
    · rcases hv with ⟨hp, h⟩ | ⟨hp, h⟩
      · exact .inl ⟨hp, by rw [ab _ _ _ h, sm]⟩
      · refine .inr ⟨hp, ?_⟩
        have := ab _ _ _ h
        rw [sm] at this; exact this
  obtain ⟨h1, h2⟩ := hn
  have ha : 0 < n.natAbs := by
    refine Nat.pos_of_ne_zero fun h0 => ?_
    rw [h0] at h2
    rcases h2 with ⟨_, h⟩ | ⟨_, h⟩
    · have := Nat.mul_pos (Nat.pos_of_ne_zero hm) (Nat.two_pow_pos p.toNat); omega
    · simp at h; exact hm h
  rcases near_I s m p n.natAbs ha h2 with ⟨l, h⟩ | ⟨l, h⟩
  · rw [← h1] at h
    exact .inl ⟨h, by omega, by omega⟩
  · cases s
    · simp only [sg, Bool.false_eq_true, if_false] at h1 h
      refine .inr (.inl ⟨by omega, ?_⟩)
      rcases h with h | ⟨b, hb, h⟩
      · exact .inl h
      · exact .inr ⟨b, by omega, h⟩
    · simp only [sg, if_true] at h1 h
      refine .inr (.inr ⟨by omega, ?_⟩)
      rcases h with h | ⟨b, hb, h⟩
      · exact .inl h
      · exact .inr ⟨-(b : Int), by omega, h⟩

theorem write_Is (s : Bool) (m : Nat) (p : Int) (n : Int) (hv : (0 ≤ p ∧ n = sg s m * 2 ^ p.toNat) ∨ (p < 0 ∧ sg s m = n * 2 ^ (-p).toNat)) :
    ∃ c, Is (double.write (.number s m p)) c ∧ c ≠ .nan := by
  rcases write_I s m p n hv with ⟨h, _⟩ | ⟨_, h | ⟨b, _, h⟩⟩ | ⟨_, h | ⟨b, _, h⟩⟩
  · exact ⟨.int n, h, by simp⟩
  · exact ⟨.inf false, h, by simp⟩
  · exact ⟨.int b, h, by simp⟩
  · exact ⟨.inf true, h, by simp⟩
  · exact ⟨.int b, h, by simp⟩

theorem ofInt_I (n : Int) (h : -9007199254740992 < n) (h' : n < 9007199254740992) : isI (FloatKind.f64.nearest n) n := by
  have := write_I (decide (n < 0)) n.natAbs 0 n (.inl ⟨by omega, by unfold sg; simp; by_cases h : n < 0 <;> simp [h] <;> omega⟩)
  rcases this with ⟨h, _⟩ | ⟨h, _⟩ | ⟨h, _⟩
  · exact h
  · omega
  · omega
def Ext.cmp : Ext → Ext → Option Ordering
  | .nan, _ | _, .nan => none
  | .inf s, .inf t => some (compare t.toNat s.toNat)
  | .inf s, .int _ => some (if s then .lt else .gt)
  | .int _, .inf t => some (if t then .gt else .lt)
  | .int a, .int b => some (compare a b)
theorem order_Is {x y : Nat} {c d : Ext} (hx : Is x c) (hy : Is y d) : double.order x y = c.cmp d := by
  cases c with
  | nan => obtain ⟨s, t, h⟩ := hx; unfold Format.order; rw [h]; cases d <;> simp [Datum.order, Ext.cmp]
  | inf s =>
    have hx : double.read x = .infinity s := hx
    cases d with
    | nan => obtain ⟨u, t, h⟩ := hy; unfold Format.order; rw [hx, h]; simp [Datum.order, Ext.cmp]
    | inf t => have hy : double.read y = .infinity t := hy; unfold Format.order; rw [hx, hy]; simp [Datum.order, Ext.cmp]
    | int b => obtain ⟨u, n, j, h, _⟩ := hy; unfold Format.order; rw [hx, h]; simp [Datum.order, Ext.cmp]
  | int a =>
    cases d with
    | nan => obtain ⟨u, t, h⟩ := hy; unfold Format.order; rw [h]; obtain ⟨u, n, j, h, _⟩ := hx; rw [h]; simp [Datum.order, Ext.cmp]
    | inf t => have hy : double.read y = .infinity t := hy; obtain ⟨u, n, j, h, _⟩ := hx; unfold Format.order; rw [hy, h]; simp [Datum.order, Ext.cmp]
    | int b => rw [order_I hx hy]; rfl

/-- Is a word a NaN? -/
def isN (x : Nat) : Bool := (double.read x).isNaN
theorem isN_Is {x : Nat} {c : Ext} (h : Is x c) : isN x = true ↔ c = .nan := by
  unfold isN
  cases c with
  | nan => obtain ⟨s, t, h⟩ := h; rw [h]; simp [Datum.isNaN]
  | inf s => have h : double.read x = .infinity s := h; rw [h]; simp [Datum.isNaN]
  | int a => obtain ⟨u, n, j, h, _⟩ := h; rw [h]; simp [Datum.isNaN]
theorem order_self (x : Nat) : (double.order x x != some .eq) = isN x := by
  unfold Format.order isN
  cases h : double.read x <;> simp [Datum.order, Datum.isNaN, compare, compareOfLessAndEq]

/-- Made whole. -/
def rnd (x : Nat) : Nat := FloatKind.f64.encode ((FloatKind.f64.decode x).integral .even)
theorem rnd_Is {x : Nat} (h : isN x = false) : ∃ c, Is (rnd x) c ∧ c ≠ .nan := by
  unfold isN at h
  unfold rnd
  show ∃ c, Is (double.write ((double.read x).integral .even)) c ∧ c ≠ .nan
  cases hr : double.read x with
  | nan s t => rw [hr] at h; simp [Datum.isNaN] at h
  | infinity s =>
    refine ⟨.inf s, ?_, by simp⟩
    show double.read (double.word s double.infRung) = .infinity s
    rw [infr, read_word _ _ (by omega), if_neg (by omega), if_neg (by omega), if_pos rfl]
  | number s m i => exact write_Is s _ 0 _ (.inl ⟨by omega, rfl⟩)

theorem quiet_ne (t : Nat) : (double.quiet t) % 4503599627370496 ≠ 0 := by
  intro h
  have h1 : (double.quiet t).testBit 51 = true := by
    unfold Format.quiet
    rw [Nat.testBit_or]
    rw [show (2 ^ (double.fractionBits - 1) : Nat).testBit 51 = true from (by decide), Bool.or_true]
  have h2 : ((double.quiet t) % 2 ^ 52).testBit 51 = true := by rw [Nat.testBit_mod_two_pow]; simp [h1]
  rw [pow52, h] at h2
  simp at h2
theorem isN_quiet (s : Bool) (t : Nat) : isN (FloatKind.f64.encode (.nan s (FloatKind.f64.format.quiet t))) = true := by
  have h := quiet_ne t
  have h2 : double.quiet t % 4503599627370496 < 4503599627370496 := Nat.mod_lt _ (by decide)
  unfold isN
  show (double.read (double.word s (double.infRung + double.quiet t % double.binade))).isNaN = true
  rw [infr, binade, read_word _ _ (by omega), if_neg (by omega), if_neg (by omega), if_neg (by omega)]
  rfl

section
variable {P : Program} (w : World)
theorem whole_eq (name : String) (x : Nat) : Extern.MathFloor.toIntegral name .even #[.float .f64 x] = (match FloatKind.f64.decode x with
    | .nan s t =>
      if FloatKind.f64.format.quiet t = t then pure (.float .f64 x) else do
      let kept ← choose (.extern "math.Floor,Ceil,Trunc,RoundToEven.signallingNaN kept" 2)
      pure (.float .f64 (if kept == 1 then x else FloatKind.f64.encode (.nan s (FloatKind.f64.format.quiet t))))
    | d => pure (.float .f64 (FloatKind.f64.encode (d.integral .even)))) := rfl
theorem run_rnd (name : String) (x : Nat) (h : isN x = false) : (Extern.MathFloor.toIntegral name .even #[.float .f64 x]).run P w = .ok (.float .f64 (rnd x)) w := by
  unfold isN at h
  have h : (FloatKind.f64.decode x).isNaN = false := h
  rw [whole_eq]
  unfold rnd
  cases hr : FloatKind.f64.decode x with
  | nan s t => rw [hr] at h; simp [Datum.isNaN] at h
  | infinity s => simp
  | number s m i => simp
theorem run_rnd_nan (name : String) (x : Nat) (h : isN x = true) : ∃ r w', (Extern.MathFloor.toIntegral name .even #[.float .f64 x]).run P w = .ok (.float .f64 r) w' ∧ isN r = true ∧ (w' = w ∨ w' = w.drew) := by
  have h' : (FloatKind.f64.decode x).isNaN = true := h
  rw [whole_eq]
  cases hr : FloatKind.f64.decode x with
  | infinity s => rw [hr] at h'; simp [Datum.isNaN] at h'
  | number s m i => rw [hr] at h'; simp [Datum.isNaN] at h'
  | nan s t =>
    simp only
    split
    · exact ⟨x, w, by simp, h, .inl rfl⟩
    · simp only [Sem.run_bind, run_choose_drew]
      rw [if_neg (by simp [Question.forced])]
      simp only [Result.andThen, Sem.run_pure]
      split
      · exact ⟨x, _, rfl, h, .inr rfl⟩
      · exact ⟨_, _, rfl, isN_quiet s t, .inr rfl⟩

theorem isN_chosen (t : Nat) : isN ((t % 2) * 2 ^ 63 + 0x7ff0000000000000 + 1 + (t / 2) % (2 ^ 52 - 1)) = true := by
  have h2 : (t / 2) % (2 ^ 52 - 1) < 2 ^ 52 - 1 := Nat.mod_lt _ (by decide)
  obtain ⟨q, hq⟩ : ∃ q, q = (t / 2) % (2 ^ 52 - 1) := ⟨_, rfl⟩
  rw [← hq] at h2 ⊢
  have hw : (t % 2) * 2 ^ 63 + 0x7ff0000000000000 + 1 + q = double.word (t % 2 == 1) (2047 * 4503599627370496 + 1 + q) := by
    unfold Format.word
    rw [signw]
    rcases Nat.mod_two_eq_zero_or_one t with h | h <;> rw [h] <;> simp <;> omega
  unfold isN
  rw [hw, read_word _ _ (by omega), if_neg (by omega), if_neg (by omega), if_neg (by omega)]
  rfl
/-- A sum. -/
theorem run_add (t : TypeId) (x y : Nat) : ∃ r w', (binOp .add t (.float .f64 x) (.float .f64 y)).run P w = .ok (.float .f64 r) w' ∧ (w' = w ∨ w' = w.drew) ∧
    (∀ z, double.add x y = some z → r = z ∧ w' = w) ∧ (double.add x y = none → isN r = true) := by
  cases h : double.add x y with
  | some z => exact ⟨z, w, run_float_arith w .add t .f64 x y z h, .inl rfl, fun _ e => by cases e; exact ⟨rfl, rfl⟩, fun e => by cases e⟩
  | none =>
    have h' : FloatKind.f64.format.add x y = none := h
    refine ⟨_, w.drew, ?_, .inr rfl, (by intro z e; cases e), fun _ => isN_chosen (w.tape w.drawn (.nanBits .f64 x y))⟩
    simp [binOp, Op.floatArith, h', run_choose_drew, Question.forced, Question.cut, Result.andThen]
theorem add_Is {x y : Nat} {c d : Ext} (hx : Is x c) (hy : Is y d) : (double.add x y = none ∧ (c = .nan ∨ d = .nan ∨ ∃ s, c = .inf s ∧ d = .inf (!s))) ∨ ∃ z e, double.add x y = some z ∧ Is z e ∧ e ≠ .nan ∧ c ≠ .nan ∧ d ≠ .nan ∧
    (∀ a b, c = .int a → d = .int b → -9007199254740992 < a + b → a + b < 9007199254740992 → e = .int (a + b)) := by
  unfold Format.add
  have inf_ok : ∀ s, Is (double.write (.infinity s)) (.inf s) := fun s => by
    show double.read (double.word s double.infRung) = .infinity s
    rw [infr, read_word _ _ (by omega), if_neg (by omega), if_neg (by omega), if_pos rfl]
  cases c with
  | nan => obtain ⟨s, t, h⟩ := hx; rw [h]; left; cases double.read y <;> simp [Datum.sum]
  | inf s =>
    have hx : double.read x = .infinity s := hx
    rw [hx]
    cases d with
    | nan => obtain ⟨u, t, h⟩ := hy; rw [h]; left; simp [Datum.sum]
    | inf t =>
      have hy : double.read y = .infinity t := hy
      rw [hy]
      by_cases e : s = t
      · subst e
        exact .inr ⟨_, .inf s, by simp [Datum.sum], inf_ok s, by simp, by simp, by simp, by simp⟩
      · refine .inl ⟨by simp [Datum.sum, e], .inr (.inr ⟨s, rfl, ?_⟩)⟩
        cases s <;> cases t <;> simp_all
    | int b =>
      obtain ⟨u, n, j, h, _⟩ := hy
      rw [h]
      exact .inr ⟨_, .inf s, by simp [Datum.sum], inf_ok s, by simp, by simp, by simp, by simp⟩
  | int a =>
    obtain ⟨s, m, i, h1, hi, e1⟩ := hx
    rw [h1]
    cases d with
    | nan => obtain ⟨u, t, h⟩ := hy; rw [h]; left; simp [Datum.sum]
    | inf t =>
      have hy : double.read y = .infinity t := hy
      rw [hy]
      exact .inr ⟨_, .inf t, by simp [Datum.sum], inf_ok t, by simp, by simp, by simp, by simp⟩
    | int b =>
      obtain ⟨t, n, j, h2, hj, e2⟩ := hy
      rw [h2]
      simp only [Datum.sum, Option.map_some]
      obtain ⟨B, hB⟩ : ∃ B, B = min i j := ⟨_, rfl⟩
      rw [← hB]
      obtain ⟨T, hT⟩ : ∃ T, T = signed s m (i - B).toNat + signed t n (j - B).toNat := ⟨_, rfl⟩
      rw [← hT]
      -- the sum's value
      have hv : T * 2 ^ (B + 1074).toNat = (a + b) * 2 ^ 1074 := by
        rw [show (i + 1074).toNat = (i - B).toNat + (B + 1074).toNat by omega, signed_add] at e1
        rw [show (j + 1074).toNat = (j - B).toNat + (B + 1074).toNat by omega, signed_add] at e2
        rw [hT, Int.add_mul, Int.add_mul, e1, e2]
      obtain ⟨S, hS⟩ : ∃ S : Bool, S = (if T = 0 then s && t else decide (T < 0)) := ⟨_, rfl⟩
      rw [← hS]
      have hsg : sg S T.natAbs = T := by
        by_cases h0 : T = 0
        · rw [h0]; unfold sg; cases S <;> simp
        · rw [if_neg h0] at hS
          by_cases h3 : T < 0
          · rw [decide_eq_true h3] at hS; subst hS; unfold sg; simp; omega
          · rw [decide_eq_false h3] at hS; subst hS; unfold sg; simp; omega
      have hcond : (0 ≤ B ∧ a + b = sg S T.natAbs * 2 ^ B.toNat) ∨ (B < 0 ∧ sg S T.natAbs = (a + b) * 2 ^ (-B).toNat) := by
        rw [hsg]
        obtain ⟨Y, hY⟩ : ∃ Y : Nat, Y = 1074 := ⟨_, rfl⟩
        rw [← hY] at hv
        by_cases hb : B < 0
        · refine .inr ⟨hb, ?_⟩
          rw [show Y = (-B).toNat + (B + 1074).toNat by omega, Int.pow_add, ← Int.mul_assoc] at hv
          exact Int.eq_of_mul_eq_mul_right (by have := two_pos (B + 1074).toNat; omega) hv
        · refine .inl ⟨by omega, ?_⟩
          rw [show (B + 1074).toNat = B.toNat + Y by omega, Int.pow_add, ← Int.mul_assoc] at hv
          exact (Int.eq_of_mul_eq_mul_right (by have := two_pos Y; omega) hv).symm
      rcases write_I S T.natAbs B (a + b) hcond with ⟨h, _, _⟩ | ⟨l, h | ⟨k, _, h⟩⟩ | ⟨l, h | ⟨k, _, h⟩⟩
      · exact .inr ⟨_, .int (a + b), rfl, h, by simp, by simp, by simp, fun a' b' ea eb _ _ => by cases ea; cases eb; rfl⟩
      · exact .inr ⟨_, .inf false, rfl, h, by simp, by simp, by simp, fun a' b' ea eb _ _ => by cases ea; cases eb; omega⟩
      · exact .inr ⟨_, .int k, rfl, h, by simp, by simp, by simp, fun a' b' ea eb _ _ => by cases ea; cases eb; omega⟩
      · exact .inr ⟨_, .inf true, rfl, h, by simp, by simp, by simp, fun a' b' ea eb _ _ => by cases ea; cases eb; omega⟩
      · exact .inr ⟨_, .int k, rfl, h, by simp, by simp, by simp, fun a' b' ea eb _ _ => by cases ea; cases eb; omega⟩

theorem uncast {a x b y : Nat} (h : (a : Int) * 2 ^ x = (b : Int) * 2 ^ y) : a * 2 ^ x = b * 2 ^ y := by exact_mod_cast h
theorem toInt_I {x : Nat} {n : Int} (h : isI x n) (h0 : 0 < n) (hb : n ≤ 9007199254740992) : floatToIntVal .f64 x .i64 = some n := by
  obtain ⟨s, m, p, hr, hp, e⟩ := h
  have hr' : FloatKind.f64.decode x = .number s m p := hr
  unfold floatToIntVal
  rw [hr']
  obtain ⟨Y, hY⟩ : ∃ Y : Nat, Y = 1074 := ⟨_, rfl⟩
  rw [← hY, signed_eq] at e
  have hpos : 0 < n * 2 ^ Y := Int.mul_pos h0 (two_pos Y)
  have hs : s = false := by
    cases s
    · rfl
    · rw [← e] at hpos
      simp only [if_true, Int.neg_mul] at hpos
      have := Int.mul_nonneg (Int.natCast_nonneg m) (Int.le_of_lt (two_pos (p + 1074).toNat))
      omega
  subst hs
  simp only [Bool.false_eq_true, if_false] at e
  obtain ⟨N, rfl⟩ := Int.eq_ofNat_of_zero_le (Int.le_of_lt h0)
  have e' : m * 2 ^ (p + 1074).toNat = N * 2 ^ Y := uncast e
  have hN : N ≠ 0 := by omega
  have key : Toward.zero.cut false (m <<< p.toNat) (-p).toNat = N := by
    by_cases hb : p < 0
    · rw [show p.toNat = 0 by omega, Nat.shiftLeft_zero]
      have : m = N * 2 ^ (-p).toNat := by
        rw [show Y = (-p).toNat + (p + 1074).toNat by omega, Nat.pow_add, ← Nat.mul_assoc] at e'
        exact Nat.eq_of_mul_eq_mul_right (Nat.two_pow_pos _) e'
      rw [this]
      exact cut_exact _ _ _ _ hN
    · rw [show (-p).toNat = 0 by omega, cut_zero, Nat.shiftLeft_eq]
      rw [show (p + 1074).toNat = p.toNat + Y by omega, Nat.pow_add, ← Nat.mul_assoc] at e'
      exact Nat.eq_of_mul_eq_mul_right (Nat.two_pow_pos _) e'
  have ht : Datum.toInt .zero (.number false m p) = some (N : Int) := by
    unfold Datum.toInt Datum.integral
    simp only [key, signed, Bool.false_eq_true, if_false, Nat.shiftLeft_zero]
  rw [ht]
  simp only
  rw [if_pos (by constructor <;> simp [IntKind.min, IntKind.max, IntKind.signed, IntKind.bits] <;> omega)]

theorem cmp_eq {c d : Ext} (h : c.cmp d = some .eq) : c = d := by
  cases c with
  | nan => cases d <;> simp [Ext.cmp] at h
  | inf s =>
    cases d with
    | nan => simp [Ext.cmp] at h
    | inf t => cases s <;> cases t <;> simp [Ext.cmp, compare, compareOfLessAndEq] at h ⊢
    | int b => cases s <;> simp [Ext.cmp] at h
  | int a =>
    cases d with
    | nan => simp [Ext.cmp] at h
    | inf t => cases t <;> simp [Ext.cmp] at h
    | int b =>
      simp only [Ext.cmp, compare, compareOfLessAndEq, Option.some.injEq] at h
      split at h
      · cases h
      · split at h
        · rename_i e; rw [e]
        · cases h
theorem run_max {x y : Nat} {c d : Ext} (hx : Is x c) (hy : Is y d) (hc : c ≠ .nan) (hd : d ≠ .nan) :
    ∃ r, (∀ (ts : Array TypeId) (t : TypeId), (Builtin.max_ ts t #[.float .f64 x, .float .f64 y]).run P w = .ok (.float .f64 r) w) ∧ Is r (if c.cmp d = some .lt then d else c) := by
  have ho := order_Is hx hy
  have ho' : FloatKind.f64.format.order x y = c.cmp d := ho
  cases hcd : c.cmp d with
  | none => cases c <;> cases d <;> simp_all [Ext.cmp]
  | some o =>
    rw [hcd] at ho'
    cases o with
    | lt => exact ⟨y, fun ts t => by simp [Builtin.max_, Builtin.max2, ho'], by simpa using hy⟩
    | gt => exact ⟨x, fun ts t => by simp [Builtin.max_, Builtin.max2, ho'], by simpa using hx⟩
    | eq =>
      have hcd' : c = d := cmp_eq hcd
      subst hcd'
      refine ⟨if (FloatKind.f64.decode x).neg then y else x, fun ts t => by simp [Builtin.max_, Builtin.max2, ho'], ?_⟩
      simp only [reduceCtorEq, if_false, Option.some.injEq]
      split
      · exact hy
      · exact hx
theorem run_min {x y : Nat} {c d : Ext} (hx : Is x c) (hy : Is y d) (hc : c ≠ .nan) (hd : d ≠ .nan) :
    ∃ r, (∀ (ts : Array TypeId) (t : TypeId), (Builtin.min_ ts t #[.float .f64 x, .float .f64 y]).run P w = .ok (.float .f64 r) w) ∧ Is r (if c.cmp d = some .gt then d else c) := by
  have ho := order_Is hx hy
  have ho' : FloatKind.f64.format.order x y = c.cmp d := ho
  cases hcd : c.cmp d with
  | none => cases c <;> cases d <;> simp_all [Ext.cmp]
  | some o =>
    rw [hcd] at ho'
    cases o with
    | lt => exact ⟨x, fun ts t => by simp [Builtin.min_, Builtin.min2, ho'], by simpa using hx⟩
    | gt => exact ⟨y, fun ts t => by simp [Builtin.min_, Builtin.min2, ho'], by simpa using hy⟩
    | eq =>
      have hcd' : c = d := cmp_eq hcd
      subst hcd'
      refine ⟨if (FloatKind.f64.decode x).neg then x else y, fun ts t => by simp [Builtin.min_, Builtin.min2, ho'], ?_⟩
      simp only [reduceCtorEq, if_false, Option.some.injEq]
      split
      · exact hx
      · exact hy
theorem run_neq_self (t : TypeId) (x : Nat) : (binOp .neq t (.float .f64 x) (.float .f64 x)).run P w = .ok (.bool (isN x)) w := by
  rw [binOp_float_cmp_neq]; exact congrArg (fun b => Result.ok (Value.bool b) w) (order_self x)
theorem run_geq (t : TypeId) {x y : Nat} {c d : Ext} (hx : Is x c) (hy : Is y d) : (binOp .geq t (.float .f64 x) (.float .f64 y)).run P w = .ok (.bool (c.cmp d == some .gt || c.cmp d == some .eq)) w := by
  rw [binOp_float_cmp_geq]; exact congrArg (fun b : Option Ordering => Result.ok (Value.bool (b == some .gt || b == some .eq)) w) (order_Is hx hy)
theorem run_lss (t : TypeId) {x y : Nat} {c d : Ext} (hx : Is x c) (hy : Is y d) : (binOp .lss t (.float .f64 x) (.float .f64 y)).run P w = .ok (.bool (c.cmp d == some .lt)) w := by
  rw [binOp_float_cmp_lss]; exact congrArg (fun b : Option Ordering => Result.ok (Value.bool (b == some .lt)) w) (order_Is hx hy)
theorem Is_nan {x : Nat} (h : isN x = true) : Is x .nan := by
  unfold isN at h
  cases hr : double.read x with
  | nan s t => exact ⟨s, t, hr⟩
  | infinity s => rw [hr] at h; cases h
  | number s m i => rw [hr] at h; cases h
theorem add_nan {x y : Nat} (h : isN x = true ∨ isN y = true) : double.add x y = none := by
  unfold Format.add
  rcases h with h | h
  · obtain ⟨s, t, h⟩ := Is_nan h
    rw [h]; cases double.read y <;> rfl
  · obtain ⟨s, t, h⟩ := Is_nan h
    rw [h]; cases double.read x <;> rfl
theorem one_I : isI 4607182418800017408 1 := by
  have : double.read 4607182418800017408 = .number false 4503599627370496 (-52) := by decide
  have e : ∀ Y : Nat, 4503599627370496 * 2 ^ Y = 1 * 2 ^ (52 + Y) := fun Y => by rw [Nat.pow_add, pow52, Nat.one_mul]
  obtain ⟨C, hC⟩ : ∃ C : Nat, C = 1022 := ⟨_, rfl⟩
  exact isI_of (b := 1) (Y := 52 + C) this (by omega) (by rw [show ((-52 : Int) + 1074).toNat = C by omega]; exact e C) (by omega)
theorem inf_Is : Is 9218868437227405312 (.inf false) := by
  show double.read 9218868437227405312 = .infinity false
  decide
end
end Go.Fl
