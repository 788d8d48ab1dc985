/- Plain facts on the reference's reader: where it stands, that it ends, that its trees are sound. -/
import Derived.Test.YtddichibegppjaaP3
import Derived.Test.YtddichibegppjaaP5
set_option linter.unusedSimpArgs false
set_option linter.unusedVariables false
namespace Go.Proofs.Ytddichibegppjaa
open Go Go.VC

theorem fail_f (s : S3) {k : Int} (hk : k ≠ 0) : (s.fail k).f ≠ 0 := by
  unfold S3.fail
  split
  · exact hk
  · assumption
theorem fail_d (s : S3) (k : Int) : (s.fail k).d = s.d := (fail_i s k).2
theorem fail_ii (s : S3) (k : Int) : (s.fail k).i = s.i := (fail_i s k).1
theorem more3_tt {l : List UInt8} {s : S3} (h : more3 l s = true) : s.f = 0 ∧ s.i < l.length := by simpa [more3] using h
theorem more3_ff {l : List UInt8} {s : S3} (h : more3 l s = false) (hf : s.f = 0) : l.length ≤ s.i := by simpa [more3, hf] using h

theorem escape3_ok (l : List UInt8) (s : S3) (h : s.i < l.length) (hr : (escape3 l s).2.f = 0) : s.f = 0 ∧ s.i < (escape3 l s).2.i ∧ (escape3 l s).2.i ≤ l.length := by
  unfold escape3 at hr ⊢
  split
  · rename_i hm
    have hm' := more3_tt hm
    have h1 : s.i + 1 < l.length := hm'.2
    split
    · have := oct3_i l 3 (s.i + 1) 0
      exact ⟨hm'.1, by show s.i < (oct3 l 3 (s.i + 1) 0).2; omega, by show (oct3 l 3 (s.i + 1) 0).2 ≤ _; omega⟩
    · exact ⟨hm'.1, by show s.i < s.i + 2; omega, by show s.i + 2 ≤ _; omega⟩
  · rename_i hm
    rw [if_neg hm] at hr
    exact absurd hr (fail_f _ (by decide))

theorem clEnd_lt (l : List UInt8) : ∀ (k e : Nat), e ≤ l.length + 1 → clEnd l k e ≤ l.length + 1
  | 0, e, h => h
  | k + 1, e, h => by
    simp only [clEnd]
    split
    · rename_i hc
      simp only [Bool.and_eq_true, decide_eq_true_eq] at hc
      exact clEnd_lt l k (e + 1) (by omega)
    · exact h

theorem item3_ok (l : List UInt8) (s : S3) (set : List Bool) (h : s.i < l.length) (hr : (item3 l s set).2.2.f = 0) : s.f = 0 ∧ s.i < (item3 l s set).2.2.i ∧ (item3 l s set).2.2.i ≤ l.length := by
  unfold item3 at hr ⊢
  split
  · rename_i hc
    rw [if_pos hc] at hr
    simp only [] at hr ⊢
    split
    · rename_i h1; rw [if_pos h1] at hr; exact absurd hr (fail_f _ (by decide))
    · rename_i h1
      rw [if_neg h1] at hr
      split
      · rename_i h2
        rw [if_pos h2] at hr
        have := clEnd_le l l.length (s.i + 2)
        refine ⟨hr, by show s.i < clEnd l l.length (s.i + 2) + 2; omega, by show clEnd l l.length (s.i + 2) + 2 ≤ l.length; omega⟩
      · rename_i h2; rw [if_neg h2] at hr; exact absurd hr (fail_f _ (by decide))
  · rename_i hc
    rw [if_neg hc] at hr
    split
    · rename_i h1; rw [if_pos h1] at hr; exact escape3_ok l s h hr
    · rename_i h1; rw [if_neg h1] at hr; exact ⟨hr, by show s.i < s.i + 1; omega, by show s.i + 1 ≤ _; omega⟩

theorem items3_ok (l : List UInt8) : ∀ (k : Nat) (first : Bool) (set : List Bool) (s : S3) (r : Option (List Bool)) (s' : S3), s.i ≤ l.length + 1 → items3 l k first set s = some (r, s') →
    s'.d = s.d ∧ s'.i ≤ l.length + 1 ∧ (s'.f = 0 → s.f = 0 ∧ s.i < s'.i ∧ s'.i ≤ l.length) := by
  intro k
  induction k with
  | zero => intro first set s r s' _ h; simp [items3] at h
  | succ k ih =>
    intro first set s r s' hi h
    simp only [items3] at h
    split at h
    · rename_i hf
      obtain ⟨rfl, rfl⟩ := by simpa using h
      exact ⟨rfl, hi, fun h => absurd h hf⟩
    split at h
    · obtain ⟨rfl, rfl⟩ := by simpa using h
      exact ⟨fail_d _ _, by rw [fail_ii]; exact hi, fun h => absurd h (fail_f _ (by decide))⟩
    rename_i hf hge
    have hlt : s.i < l.length := by omega
    split at h
    · obtain ⟨rfl, rfl⟩ := by simpa using h
      exact ⟨rfl, by show s.i + 1 ≤ _; omega, fun h => ⟨h, by show s.i < s.i + 1; omega, by show s.i + 1 ≤ _; omega⟩⟩
    obtain ⟨q1, q2, q3, q4⟩ := item3_facts l s set hlt
    have q5 := item3_ok l s set hlt
    generalize item3 l s set = r1 at *
    split at h
    · rename_i h1
      obtain ⟨rfl, rfl⟩ := by simpa using h
      exact ⟨q3, q2, fun h => absurd h h1⟩
    rename_i hcl hf1
    have q6 := q5 (by simpa using hf1)
    split at h
    · rename_i hr
      simp only [Bool.and_eq_true, decide_eq_true_eq] at hr
      split at h
      · obtain ⟨rfl, rfl⟩ := by simpa using h
        exact ⟨by rw [fail_d]; exact q3, by rw [fail_ii]; exact q2, fun h => absurd h (fail_f _ (by decide))⟩
      have hon : r1.2.2.on.i = r1.2.2.i + 1 := rfl
      obtain ⟨p1, p2, p3, p4⟩ := item3_facts l r1.2.2.on noSet (by rw [hon]; omega)
      have p5 := item3_ok l r1.2.2.on noSet (by rw [hon]; omega)
      generalize item3 l r1.2.2.on noSet = r2 at *
      have hd : r2.2.2.d = s.d := p3.trans q3
      split at h
      · rename_i h1
        obtain ⟨rfl, rfl⟩ := by simpa using h
        exact ⟨hd, p2, fun h => absurd h h1⟩
      rename_i hf2
      have p6 := p5 (by simpa using hf2)
      split at h
      · obtain ⟨rfl, rfl⟩ := by simpa using h
        exact ⟨by rw [fail_d]; exact hd, by rw [fail_ii]; exact p2, fun h => absurd h (fail_f _ (by decide))⟩
      · obtain ⟨j1, j2, j3⟩ := ih _ _ _ _ _ p2 h
        exact ⟨j1.trans hd, j2, fun h => by obtain ⟨e1, e2, e3⟩ := j3 h; exact ⟨q6.1, by omega, e3⟩⟩
    · obtain ⟨j1, j2, j3⟩ := ih _ _ _ _ _ q2 h
      exact ⟨j1.trans q3, j2, fun h => by obtain ⟨e1, e2, e3⟩ := j3 h; exact ⟨q6.1, by omega, e3⟩⟩

theorem items3_total (l : List UInt8) : ∀ (k : Nat) (first : Bool) (set : List Bool) (s : S3), s.i ≤ l.length + 1 → l.length + 2 ≤ s.i + k → ∃ r, items3 l k first set s = some r := by
  intro k
  induction k with
  | zero => intro first set s h1 h2; omega
  | succ k ih =>
    intro first set s hi hk
    simp only [items3]
    split
    · exact ⟨_, rfl⟩
    split
    · exact ⟨_, rfl⟩
    rename_i hf hge
    have hlt : s.i < l.length := by omega
    split
    · exact ⟨_, rfl⟩
    obtain ⟨q1, q2, q3, q4⟩ := item3_facts l s set hlt
    have q5 := item3_ok l s set hlt
    generalize item3 l s set = r1 at *
    split
    · exact ⟨_, rfl⟩
    rename_i hcl hf1
    have q6 := q5 (by simpa using hf1)
    split
    · rename_i hr
      simp only [Bool.and_eq_true, decide_eq_true_eq] at hr
      split
      · exact ⟨_, rfl⟩
      have hon : r1.2.2.on.i = r1.2.2.i + 1 := rfl
      obtain ⟨p1, p2, p3, p4⟩ := item3_facts l r1.2.2.on noSet (by rw [hon]; omega)
      have p5 := item3_ok l r1.2.2.on noSet (by rw [hon]; omega)
      generalize item3 l r1.2.2.on noSet = r2 at *
      split
      · exact ⟨_, rfl⟩
      rename_i hf2
      have p6 := p5 (by simpa using hf2)
      split
      · exact ⟨_, rfl⟩
      · exact ih _ _ _ p2 (by omega)
    · exact ih _ _ _ q2 (by omega)

theorem bytesOf_le (set : List Bool) (not : Bool) : (bytesOf set not).length ≤ 256 := by
  have := List.length_filterMap_le (fun k => if set.getD k false != not then some (UInt8.ofNat k) else none) (List.range 256)
  rw [List.length_range] at this
  exact this
theorem allBytes_le : allBytes.length ≤ 256 := by simp [allBytes]
theorem Good_set {set : List UInt8} (h : set.length ≤ 256) : Good (.node opSet set [] 0 0) := by simp [Good, h]
theorem Good_bol : Good (.node opBol [] [] 0 0) := by simp [Good]
theorem Good_eol : Good (.node opEol [] [] 0 0) := by simp [Good]
theorem Goods_append : ∀ (es : List Re) (e : Re), Goods es → Good e → Goods (es ++ [e])
  | [], e, _, h => by simp [Goods, h]
  | k :: es, e, h1, h2 => by
    simp only [Goods] at h1
    simp only [List.cons_append, Goods]
    exact ⟨h1.1, Goods_append es e h1.2 h2⟩

theorem bracket3_ok (l : List UInt8) (s : S3) (t : Re) (s' : S3) (h : s.i < l.length) (hr : bracket3 l s = some (t, s')) : s'.d = s.d ∧ s'.i ≤ l.length + 1 ∧ (s'.f = 0 → s.f = 0 ∧ s.i < s'.i ∧ s'.i ≤ l.length ∧ Good t) := by
  unfold bracket3 at hr
  simp only [] at hr
  have key : ∀ s2 : S3, s2.d = s.d → s2.f = s.f → s.i < s2.i → s2.i ≤ l.length + 1 → ∀ nt, (match items3 l (l.length + 2) true noSet s2 with
      | none => none
      | some (none, s3) => some (Re.zero, s3)
      | some (some set, s3) => some (Re.node opSet (bytesOf set nt) [] 0 0, s3)) = some (t, s') → s'.d = s.d ∧ s'.i ≤ l.length + 1 ∧ (s'.f = 0 → s.f = 0 ∧ s.i < s'.i ∧ s'.i ≤ l.length ∧ Good t) := by
    intro s2 h1 h2 h3 h4 nt hm
    have hno : ∀ s3, items3 l (l.length + 2) true noSet s2 = some (none, s3) → s3.f ≠ 0 := by
      intro s3
      have : ∀ (k : Nat) (first : Bool) (set : List Bool) (s s3 : S3), items3 l k first set s = some (none, s3) → s3.f ≠ 0 := by
        intro k
        induction k with
        | zero => intro first set s s3 h; simp [items3] at h
        | succ k ih =>
          intro first set s s3 h
          simp only [items3] at h
          repeat' split at h
          all_goals first
            | (injection h with h; injection h with _ h; subst h; first | assumption | exact fail_f _ (by decide))
            | (simp at h; done)
            | exact ih _ _ _ _ h
      exact this _ _ _ _ _
    split at hm
    · cases hm
    · rename_i s3 e
      obtain ⟨rfl, rfl⟩ := by simpa using hm
      obtain ⟨j1, j2, j3⟩ := items3_ok l _ _ _ _ _ _ h4 e
      exact ⟨j1.trans h1, j2, fun h => absurd h (hno _ e)⟩
    · rename_i set s3 e
      obtain ⟨rfl, rfl⟩ := by simpa using hm
      obtain ⟨j1, j2, j3⟩ := items3_ok l _ _ _ _ _ _ h4 e
      exact ⟨j1.trans h1, j2, fun h => by obtain ⟨e1, e2, e3⟩ := j3 h; exact ⟨h2 ▸ e1, by omega, e3, Good_set (bytesOf_le _ _)⟩⟩
  refine key _ ?_ ?_ ?_ ?_ _ hr
  · split <;> rfl
  · split <;> rfl
  · split
    · show s.i < s.i + 1 + 1; omega
    · show s.i < s.i + 1; omega
  · split
    · rename_i hc
      simp only [Bool.and_eq_true] at hc
      have := (more3_tt hc.1).2
      change s.i + 1 < _ at this
      show s.i + 1 + 1 ≤ _; omega
    · show s.i + 1 ≤ _; omega
theorem bracket3_total (l : List UInt8) (s : S3) (h : s.i < l.length) : ∃ r, bracket3 l s = some r := by
  unfold bracket3
  simp only []
  have key : ∀ s2 : S3, s.i < s2.i → s2.i ≤ l.length + 1 → ∀ nt, ∃ r, (match items3 l (l.length + 2) true noSet s2 with
      | none => none
      | some (none, s3) => some (Re.zero, s3)
      | some (some set, s3) => some (Re.node opSet (bytesOf set nt) [] 0 0, s3)) = some r := by
    intro s2 h3 h4 nt
    obtain ⟨⟨r, s3⟩, hr⟩ := items3_total l (l.length + 2) true noSet s2 h4 (by omega)
    rw [hr]
    cases r <;> exact ⟨_, rfl⟩
  refine key _ ?_ ?_ _
  · split
    · show s.i < s.i + 1 + 1; omega
    · show s.i < s.i + 1; omega
  · split
    · rename_i hc
      simp only [Bool.and_eq_true] at hc
      have := (more3_tt hc.1).2
      change s.i + 1 < _ at this
      show s.i + 1 + 1 ≤ _; omega
    · show s.i + 1 ≤ _; omega

theorem num3_i (l : List UInt8) : ∀ (k i : Nat) (n : Int) (b : Bool), 0 ≤ n → i ≤ (num3 l k i n b).2 ∧ (num3 l k i n b).2 ≤ max i l.length ∧ 0 ≤ (num3 l k i n b).1.1 := by
  intro k
  induction k with
  | zero => intro i n b h1; simp only [num3]; exact ⟨Nat.le_refl _, by omega, h1⟩
  | succ k ih =>
    intro i n b h1
    simp only [num3]
    split
    · rename_i hc
      simp only [Bool.and_eq_true, decide_eq_true_eq, digs] at hc
      have h2 : (48 : UInt8).toNat = 48 := rfl
      obtain ⟨q1, q2, q3⟩ := ih (i + 1) (min (10 * n + ((byteAt l i).toNat - 48 : Int)) 1000) true (by omega)
      exact ⟨by omega, by omega, q3⟩
    · exact ⟨Nat.le_refl _, by omega, h1⟩
theorem repeat3_ok (l : List UInt8) (s : S3) (h : s.i ≤ l.length) : (repeat3 l s).2.d = s.d ∧ s.i ≤ (repeat3 l s).2.i ∧ (repeat3 l s).2.i ≤ l.length ∧ ((repeat3 l s).2.f = 0 → s.f = 0) ∧
    ((repeat3 l s).1.2.2 = true → s.i < (repeat3 l s).2.i ∧ (repeat3 l s).2.f = s.f ∧ 0 ≤ (repeat3 l s).1.1 ∧ (repeat3 l s).1.1 ≤ 255 ∧ -1 ≤ (repeat3 l s).1.2.1 ∧ (repeat3 l s).1.2.1 ≤ 255 ∧ ((repeat3 l s).1.2.1 < 0 ∨ (repeat3 l s).1.1 ≤ (repeat3 l s).1.2.1)) ∧
    ((repeat3 l s).1.2.2 = false → (repeat3 l s).2 = s ∨ (repeat3 l s).2.f ≠ 0) := by
  unfold repeat3
  split
  · exact ⟨rfl, Nat.le_refl _, h, id, fun h => (by cases h), fun _ => .inl rfl⟩
  rename_i hm
  have hm' := more3_tt (by simpa using hm)
  have one : ∀ (lo hi : Int), 0 ≤ lo → lo ≤ 255 → -1 ≤ hi → hi ≤ 255 → (hi < 0 ∨ lo ≤ hi) → (((lo, hi, true), s.on) : (Int × Int × Bool) × S3).2.d = s.d ∧ s.i ≤ (((lo, hi, true), s.on) : (Int × Int × Bool) × S3).2.i ∧ (((lo, hi, true), s.on) : (Int × Int × Bool) × S3).2.i ≤ l.length ∧ ((((lo, hi, true), s.on) : (Int × Int × Bool) × S3).2.f = 0 → s.f = 0) ∧
    ((((lo, hi, true), s.on) : (Int × Int × Bool) × S3).1.2.2 = true → s.i < (((lo, hi, true), s.on) : (Int × Int × Bool) × S3).2.i ∧ (((lo, hi, true), s.on) : (Int × Int × Bool) × S3).2.f = s.f ∧ 0 ≤ lo ∧ lo ≤ 255 ∧ -1 ≤ hi ∧ hi ≤ 255 ∧ (hi < 0 ∨ lo ≤ hi)) ∧
    ((((lo, hi, true), s.on) : (Int × Int × Bool) × S3).1.2.2 = false → (((lo, hi, true), s.on) : (Int × Int × Bool) × S3).2 = s ∨ (((lo, hi, true), s.on) : (Int × Int × Bool) × S3).2.f ≠ 0) := by
    intro lo hi h1 h2 h3 h4 h5
    exact ⟨rfl, by show s.i ≤ s.i + 1; omega, by show s.i + 1 ≤ _; omega, id, fun _ => ⟨by show s.i < s.i + 1; omega, rfl, h1, h2, h3, h4, h5⟩, fun h => by cases h⟩
  split
  · exact one 0 (-1) (by omega) (by omega) (by omega) (by omega) (by omega)
  split
  · exact one 1 (-1) (by omega) (by omega) (by omega) (by omega) (by omega)
  split
  · exact one 0 1 (by omega) (by omega) (by omega) (by omega) (by omega)
  split
  · split
    · exact ⟨rfl, Nat.le_refl _, h, id, fun h => (by cases h), fun _ => .inl rfl⟩
    · rename_i hc
      simp only [Bool.or_eq_true, decide_eq_true_eq, not_or] at hc
      simp only []
      have hon : s.on.i = s.i + 1 := rfl
      obtain ⟨a1, a2, a3⟩ := num3_i l l.length s.on.i 0 false (by omega)
      have a4 : (digit3 l s.on).2.i = (num3 l l.length s.on.i 0 false).2 := rfl
      have a5 : (digit3 l s.on).2.f = s.f := rfl
      have a6 : (digit3 l s.on).2.d = s.d := rfl
      have a7 : (digit3 l s.on).1.1 = (num3 l l.length s.on.i 0 false).1.1 := rfl
      generalize digit3 l s.on = p at *
      obtain ⟨b1, b2, b3⟩ := num3_i l l.length p.2.on.i 0 false (by omega)
      have hon2 : p.2.on.i = p.2.i + 1 := rfl
      have b4 : (digit3 l p.2.on).2.i = (num3 l l.length p.2.on.i 0 false).2 := rfl
      have b5 : (digit3 l p.2.on).2.f = p.2.f := rfl
      have b6 : (digit3 l p.2.on).2.d = p.2.d := rfl
      have b7 : (digit3 l p.2.on).1.1 = (num3 l l.length p.2.on.i 0 false).1.1 := rfl
      generalize digit3 l p.2.on = q at *
      have key : ∀ (n : Int) (s2 : S3), s2.d = s.d → s2.f = s.f → s.i < s2.i → s2.i ≤ l.length → -1 ≤ n →
          let R : (Int × Int × Bool) × S3 := if (decide ((s2.i : Int) ≥ l.length) || !(byteAt l s2.i == 125) || decide (p.1.1 > 255) || decide (n > 255) || (decide (n ≥ 0) && decide (p.1.1 > n))) = true then ((0, 0, false), s2.fail 3) else ((p.1.1, n, true), s2.on)
          R.2.d = s.d ∧ s.i ≤ R.2.i ∧ R.2.i ≤ l.length ∧ (R.2.f = 0 → s.f = 0) ∧ (R.1.2.2 = true → s.i < R.2.i ∧ R.2.f = s.f ∧ 0 ≤ R.1.1 ∧ R.1.1 ≤ 255 ∧ -1 ≤ R.1.2.1 ∧ R.1.2.1 ≤ 255 ∧ (R.1.2.1 < 0 ∨ R.1.1 ≤ R.1.2.1)) ∧ (R.1.2.2 = false → R.2 = s ∨ R.2.f ≠ 0) := by
        intro n s2 h1 h2 h3 h4 h5 R
        show R.2.d = s.d ∧ _
        by_cases hcond : (decide ((s2.i : Int) ≥ l.length) || !(byteAt l s2.i == 125) || decide (p.1.1 > 255) || decide (n > 255) || (decide (n ≥ 0) && decide (p.1.1 > n))) = true
        · have hR : R = ((0, 0, false), s2.fail 3) := if_pos hcond
          rw [hR]
          exact ⟨by show (s2.fail 3).d = _; rw [fail_d]; exact h1, by show _ ≤ (s2.fail 3).i; rw [fail_ii]; omega, by show (s2.fail 3).i ≤ _; rw [fail_ii]; exact h4, fun h => absurd h (fail_f _ (by decide)), fun h => (by cases h), fun _ => .inr (fail_f _ (by decide))⟩
        · have hR : R = ((p.1.1, n, true), s2.on) := if_neg hcond
          rw [hR]
          simp only [Bool.or_eq_true, decide_eq_true_eq, Bool.and_eq_true, not_or, not_and] at hcond
          obtain ⟨⟨⟨⟨c1, c2⟩, c3⟩, c4⟩, c5⟩ := hcond
          refine ⟨h1, by show s.i ≤ s2.i + 1; omega, by show s2.i + 1 ≤ _; omega, fun h => h2 ▸ h, fun _ => ⟨by show s.i < s2.i + 1; omega, h2, by show 0 ≤ p.1.1; omega, by show p.1.1 ≤ 255; omega, h5, by show n ≤ 255; omega, ?_⟩, fun h => by cases h⟩
          show n < 0 ∨ p.1.1 ≤ n
          omega
      cases hcm : (decide ((p.2.i : Int) < (l.length : Int)) && byteAt l p.2.i == 44) with
      | true =>
        simp only [Bool.and_eq_true, decide_eq_true_eq] at hcm
        simp only [if_true]
        exact key _ q.2 (by rw [b6, a6]) (by rw [b5, a5]) (by omega) (by omega) (by split <;> omega)
      | false =>
        simp only [Bool.false_eq_true, if_false]
        exact key _ p.2 a6 a5 (by omega) (by omega) (by omega)
  · exact ⟨rfl, Nat.le_refl _, h, id, fun h => (by cases h), fun _ => .inl rfl⟩

theorem reps3_ok (l : List UInt8) : ∀ (k : Nat) (e : Re) (s : S3) (e' : Re) (s' : S3), (s.f = 0 → s.i ≤ l.length) → reps3 l k e s = some (e', s') → s'.d = s.d ∧ s'.i ≤ max s.i l.length ∧ s.i ≤ s'.i ∧ (s'.f = 0 → s.f = 0 ∧ s'.i ≤ l.length) ∧ (Good e → Good e')
  | 0, e, s, e', s', _, h => by simp [reps3] at h
  | k + 1, e, s, e', s', hi, h => by
    simp only [reps3] at h
    split at h
    · rename_i hf
      obtain ⟨rfl, rfl⟩ := by simpa using h
      exact ⟨rfl, by omega, Nat.le_refl _, fun h => absurd h hf, id⟩
    rename_i hf
    have hf0 : s.f = 0 := by simpa using hf
    obtain ⟨r1, r2, r3, r4, r5, r6⟩ := repeat3_ok l s (hi hf0)
    split at h
    · obtain ⟨rfl, rfl⟩ := by simpa using h
      exact ⟨r1, by omega, r2, fun h => ⟨hf0, r3⟩, id⟩
    · rename_i hb
      obtain ⟨t1, t2, t3, t4, t5, t6, t7⟩ := r5 (by simpa using hb)
      obtain ⟨j1, j2, j3, j4, j5⟩ := reps3_ok l k _ _ _ _ (fun _ => r3) h
      exact ⟨j1.trans r1, by omega, by omega, fun h => ⟨hf0, (j4 h).2⟩, fun hg => j5 (by simp only [Good]; right; right; right; right; right; exact ⟨trivial, rfl, by simp [Goods, hg], t3, t4, t5, t6, t7⟩)⟩
theorem reps3_total (l : List UInt8) : ∀ (k : Nat) (e : Re) (s : S3), (s.f = 0 → s.i ≤ l.length) → 1 ≤ k → l.length + 1 ≤ s.i + k → ∃ r, reps3 l k e s = some r
  | 0, e, s, _, h, _ => by omega
  | k + 1, e, s, hi, _, hk => by
    simp only [reps3]
    split
    · exact ⟨_, rfl⟩
    rename_i hf
    have hf0 : s.f = 0 := by simpa using hf
    obtain ⟨r1, r2, r3, r4, r5, r6⟩ := repeat3_ok l s (hi hf0)
    split
    · exact ⟨_, rfl⟩
    · rename_i hb
      obtain ⟨t1, t2, t3⟩ := r5 (by simpa using hb)
      exact reps3_total l k _ _ (fun _ => r3) (by omega) (by omega)

/-- How a part of the reader moves on. -/
def Mv (l : List UInt8) (s s' : S3) : Prop := s'.d = s.d ∧ (s'.i : Int) + s.d ≤ l.length + 101 ∧ (s'.f = 0 → s.f = 0 ∧ s.i ≤ s'.i ∧ s'.i ≤ l.length)
def St3 (l : List UInt8) (s : S3) : Prop := 0 ≤ s.d ∧ s.d ≤ 100 ∧ (s.i : Int) + s.d ≤ l.length + 101 ∧ (s.f = 0 → s.i ≤ l.length)
theorem Mv.st {l : List UInt8} {s s' : S3} (h : Mv l s s') (hs : St3 l s) : St3 l s' := ⟨by rw [h.1]; exact hs.1, by rw [h.1]; exact hs.2.1, by rw [h.1]; exact h.2.1, fun h' => (h.2.2 h').2.2⟩
theorem Mv.trans {l : List UInt8} {s s' s'' : S3} (h : Mv l s s') (k : Mv l s' s'') : Mv l s s'' :=
  ⟨k.1.trans h.1, by have := k.2.1; rw [h.1] at this; exact this, fun h' => by obtain ⟨e1, e2, e3⟩ := k.2.2 h'; obtain ⟨e4, e5, e6⟩ := h.2.2 e1; exact ⟨e4, by omega, e3⟩⟩
theorem Mv.refl {l : List UInt8} {s : S3} (h : St3 l s) : Mv l s s := ⟨rfl, h.2.2.1, fun h' => ⟨h', Nat.le_refl _, h.2.2.2 h'⟩⟩

def PA (l : List UInt8) (k : Nat) : Prop := ∀ s t s', St3 l s → s.f = 0 → s.i < l.length → atom3 l k s = some (t, s') → Mv l s s' ∧ (s'.f = 0 → s.i < s'.i ∧ Good t)
def PP (l : List UInt8) (k : Nat) : Prop := ∀ es s r s', St3 l s → piece3 l k es s = some (r, s') → Mv l s s' ∧ (s'.f = 0 → Goods es → ∃ es', r = some es' ∧ Goods es')
def PB (l : List UInt8) (k : Nat) : Prop := ∀ es s es' s', St3 l s → branch3 l k es s = some (es', s') → Mv l s s' ∧ (s'.f = 0 → Goods es → Goods es') ∧ es.length ≤ es'.length
def PS (l : List UInt8) (k : Nat) : Prop := ∀ s t s', St3 l s → pieces3 l k s = some (t, s') → Mv l s s' ∧ (s'.f = 0 → Good t)
def PR (l : List UInt8) (k : Nat) : Prop := ∀ s t s', St3 l s → branches3 l k s = some (t, s') → Mv l s s' ∧ (s'.f = 0 → Good t)

theorem Good_cat {es : List Re} (h : Goods es) : Good (.node opCat [] es 0 0) := by simp [Good, h]
theorem Good_alt {es : List Re} (h : Goods es) (hn : es ≠ []) : Good (.node opAlt [] es 0 0) := by simp [Good, h, hn]

theorem reads_ok (l : List UInt8) : ∀ k, PA l k ∧ PP l k ∧ PB l k ∧ PS l k ∧ PR l k
  | 0 => ⟨fun s t s' _ _ _ h => by simp [atom3] at h, fun es s r s' _ h => by simp [piece3] at h, fun es s r s' _ h => by simp [branch3] at h, fun s t s' _ h => by simp [pieces3] at h, fun s t s' _ h => by simp [branches3] at h⟩
  | k + 1 => by
    obtain ⟨ia, ip, ib, is, ir⟩ := reads_ok l k
    refine ⟨?_, ?_, ?_, ?_, ?_⟩
    · intro s t s' hs hf hi h
      obtain ⟨d0, d1, d2, d3⟩ := hs
      have on1 : Mv l s s.on := ⟨rfl, by show ((s.i + 1 : Nat) : Int) + _ ≤ _; omega, fun h => ⟨h, by show s.i ≤ s.i + 1; omega, by show s.i + 1 ≤ _; omega⟩⟩
      simp only [atom3] at h
      split at h
      · split at h
        · obtain ⟨rfl, rfl⟩ := by simpa using h
          exact ⟨⟨fail_d _ _, by rw [fail_ii]; exact d2, fun h => absurd h (fail_f _ (by decide))⟩, fun h => absurd h (fail_f _ (by decide))⟩
        · rename_i hd
          split at h
          · cases h
          · rename_i e s1 hb
            obtain ⟨⟨m1, m2, m3⟩, m4⟩ := ir _ _ _ ⟨by show 0 ≤ s.d + 1; omega, by show s.d + 1 ≤ 100; omega, by show ((s.i + 1 : Nat) : Int) + (s.d + 1) ≤ _; omega, fun _ => by show s.i + 1 ≤ _; omega⟩ hb
            simp only [] at m1 m2 m3
            obtain ⟨rfl, rfl⟩ := by simpa using h
            split
            · rename_i hc
              refine ⟨⟨?_, ?_, fun h => absurd h (fail_f _ (by decide))⟩, fun h => absurd h (fail_f _ (by decide))⟩
              · show (S3.fail _ 1).d = _
                rw [fail_d]; show s1.d - 1 = s.d; omega
              · show (((S3.fail _ 1).i + 1 : Nat) : Int) + _ ≤ _
                rw [fail_ii]; show ((s1.i + 1 : Nat) : Int) + s.d ≤ _; omega
            · rename_i hc
              refine ⟨⟨by show s1.d - 1 = s.d; omega, by show ((s1.i + 1 : Nat) : Int) + s.d ≤ _; omega, fun h => ?_⟩, fun h => ?_⟩
              · have h1 : s1.f = 0 := h
                obtain ⟨m5, m6, m7⟩ := m3 h1
                have : ¬ ((s1.i : Int) ≥ l.length) := by
                  intro hge
                  apply hc
                  simp [h1]; omega
                exact ⟨hf, by show s.i ≤ s1.i + 1; omega, by show s1.i + 1 ≤ _; omega⟩
              · have h1 : s1.f = 0 := h
                obtain ⟨m5, m6, m7⟩ := m3 h1
                exact ⟨by show s.i < s1.i + 1; omega, m4 h1⟩
      split at h
      · obtain ⟨rfl, rfl⟩ := by simpa using h
        exact ⟨on1, fun _ => ⟨by show s.i < s.i + 1; omega, Good_set allBytes_le⟩⟩
      split at h
      · obtain ⟨rfl, rfl⟩ := by simpa using h
        exact ⟨on1, fun _ => ⟨by show s.i < s.i + 1; omega, Good_bol⟩⟩
      split at h
      · obtain ⟨rfl, rfl⟩ := by simpa using h
        exact ⟨on1, fun _ => ⟨by show s.i < s.i + 1; omega, Good_eol⟩⟩
      split at h
      · obtain ⟨b1, b2, b3⟩ := bracket3_ok l s t s' hi h
        exact ⟨⟨b1, by omega, fun h => by obtain ⟨e1, e2, e3, e4⟩ := b3 h; exact ⟨e1, by omega, e3⟩⟩, fun h => by obtain ⟨e1, e2, e3, e4⟩ := b3 h; exact ⟨e2, e4⟩⟩
      split at h
      · obtain ⟨rfl, rfl⟩ := by simpa using h
        obtain ⟨b1, b2, b3⟩ := escape3_facts l s hi
        have b4 := escape3_ok l s hi
        exact ⟨⟨b3, by omega, fun h => by obtain ⟨e1, e2, e3⟩ := b4 h; exact ⟨e1, by omega, e3⟩⟩, fun h => ⟨(b4 h).2.1, Good_set (by simp)⟩⟩
      · obtain ⟨rfl, rfl⟩ := by simpa using h
        exact ⟨on1, fun _ => ⟨by show s.i < s.i + 1; omega, Good_set (by simp)⟩⟩
    · intro es s r s' hs h
      simp only [piece3] at h
      split at h
      · rename_i hc
        simp only [Bool.and_eq_true] at hc
        obtain ⟨hf, hi⟩ := more3_tt hc.1.1
        obtain ⟨r1, r2, r3, r4, r5, r6⟩ := repeat3_ok l s (by omega)
        by_cases hb : (repeat3 l s).1.2.2 = true
        · rw [if_pos hb, if_pos (fail_f _ (by decide))] at h
          obtain ⟨rfl, rfl⟩ := by simpa using h
          have hd := hs.2.1
          have hne := fail_f (repeat3 l s).2 (k := 3) (by decide)
          exact ⟨⟨by rw [fail_d]; exact r1, by rw [fail_ii]; omega, fun h => absurd h hne⟩, fun h => absurd h hne⟩
        rw [if_neg hb] at h
        have hnb : (repeat3 l s).1.2.2 = false := by simpa using hb
        split at h
        · rename_i hne
          obtain ⟨rfl, rfl⟩ := by simpa using h
          have hd := hs.2.1
          exact ⟨⟨r1, by omega, fun h => absurd h hne⟩, fun h => absurd h hne⟩
        · rename_i hne
          have hs1 : (repeat3 l s).2 = s := (r6 hnb).resolve_right (by simpa using hne)
          rw [hs1] at h
          split at h
          · cases h
          · rename_i e s2 ha
            obtain ⟨a1, a2⟩ := ia _ _ _ hs hf hi ha
            split at h
            · cases h
            · rename_i e' s3 hr
              have st2 := a1.st hs
              obtain ⟨j1, j2, j3, j4, j5⟩ := reps3_ok l _ _ _ _ _ (fun h => (a1.2.2 h).2.2) hr
              have m3 : Mv l s2 s3 := ⟨j1, by have := st2.2.2.1; have := st2.2.1; omega, fun h => ⟨(j4 h).1, j3, (j4 h).2⟩⟩
              obtain ⟨p1, p2⟩ := ip _ _ _ _ (m3.st st2) h
              refine ⟨a1.trans (m3.trans p1), fun h hg => ?_⟩
              have h3 := (p1.2.2 h).1
              have h2 := (m3.2.2 h3).1
              exact p2 h (Goods_append es e' hg (j5 (a2 h2).2))
      · obtain ⟨rfl, rfl⟩ := by simpa using h
        exact ⟨Mv.refl hs, fun _ hg => ⟨es, rfl, hg⟩⟩
    · intro es s es' s' hs h
      simp only [branch3] at h
      split at h
      · rename_i hc
        simp only [Bool.and_eq_true] at hc
        obtain ⟨hf, hi⟩ := more3_tt hc.1
        have hs2 := hs.2.1
        have on1 : Mv l s s.on := ⟨rfl, by show ((s.i + 1 : Nat) : Int) + _ ≤ _; omega, fun h => ⟨h, by show s.i ≤ s.i + 1; omega, by show s.i + 1 ≤ _; omega⟩⟩
        split at h
        · cases h
        · rename_i e s1 hp
          obtain ⟨p1, p2⟩ := is _ _ _ (on1.st hs) hp
          obtain ⟨b1, b2, b3⟩ := ib _ _ _ _ (p1.st (on1.st hs)) h
          refine ⟨on1.trans (p1.trans b1), fun h hg => b2 h (Goods_append es e hg (p2 (b1.2.2 h).1)), by simp at b3; omega⟩
      · obtain ⟨rfl, rfl⟩ := by simpa using h
        exact ⟨Mv.refl hs, fun _ => id, Nat.le_refl _⟩
    · intro s t s' hs h
      simp only [pieces3] at h
      split at h
      · cases h
      · rename_i s1 hp
        obtain ⟨rfl, rfl⟩ := by simpa using h
        obtain ⟨p1, p2⟩ := ip _ _ _ _ hs hp
        exact ⟨p1, fun h => by obtain ⟨es', h1, _⟩ := p2 h (by simp [Goods]); cases h1⟩
      · rename_i e s1 hp
        obtain ⟨rfl, rfl⟩ := by simpa using h
        obtain ⟨p1, p2⟩ := ip _ _ _ _ hs hp
        exact ⟨p1, fun h => by obtain ⟨es', h1, h2⟩ := p2 h (by simp [Goods]); injection h1 with h1; subst h1; simpa [Goods] using h2⟩
      · rename_i es s1 _ hp
        obtain ⟨rfl, rfl⟩ := by simpa using h
        obtain ⟨p1, p2⟩ := ip _ _ _ _ hs hp
        exact ⟨p1, fun h => by obtain ⟨es', h1, h2⟩ := p2 h (by simp [Goods]); injection h1 with h1; subst h1; exact Good_cat h2⟩
    · intro s t s' hs h
      simp only [branches3] at h
      split at h
      · cases h
      · rename_i e s1 hp
        obtain ⟨p1, p2⟩ := is _ _ _ hs hp
        split at h
        · cases h
        · rename_i e2 s2 hb
          obtain ⟨rfl, rfl⟩ := by simpa using h
          obtain ⟨b1, b2, b3⟩ := ib _ _ _ _ (p1.st hs) hb
          exact ⟨p1.trans b1, fun h => by have := b2 h (by simp [Goods, p2 (b1.2.2 h).1]); simpa [Goods] using this⟩
        · rename_i es s2 _ hb
          obtain ⟨rfl, rfl⟩ := by simpa using h
          obtain ⟨b1, b2, b3⟩ := ib _ _ _ _ (p1.st hs) hb
          exact ⟨p1.trans b1, fun h => Good_alt (b2 h (by simp [Goods, p2 (b1.2.2 h).1])) (by rintro rfl; simp at b3)⟩

/-- It ends. -/
theorem reads_total (l : List UInt8) : ∀ k,
    (∀ s, St3 l s → s.f = 0 → s.i < l.length → 4 * l.length ≤ 4 * s.i + k → ∃ r, atom3 l k s = some r) ∧
    (∀ es s, St3 l s → 1 ≤ k → 4 * l.length + 1 ≤ 4 * s.i + k → ∃ r, piece3 l k es s = some r) ∧
    (∀ es s, St3 l s → 1 ≤ k → 4 * l.length + 1 ≤ 4 * s.i + k → ∃ r, branch3 l k es s = some r) ∧
    (∀ s, St3 l s → 2 ≤ k → 4 * l.length + 2 ≤ 4 * s.i + k → ∃ r, pieces3 l k s = some r) ∧
    (∀ s, St3 l s → 3 ≤ k → 4 * l.length + 3 ≤ 4 * s.i + k → ∃ r, branches3 l k s = some r)
  | 0 => ⟨fun s _ _ h1 h2 => by omega, fun es s _ h => by omega, fun es s _ h => by omega, fun s _ h => by omega, fun s _ h => by omega⟩
  | k + 1 => by
    obtain ⟨ia, ip, ib, is, ir⟩ := reads_total l k
    refine ⟨?_, ?_, ?_, ?_, ?_⟩
    · intro s hs hf hi hk
      obtain ⟨d0, d1, d2, d3⟩ := hs
      simp only [atom3]
      split
      · split
        · exact ⟨_, rfl⟩
        · obtain ⟨⟨e, s1⟩, hb⟩ := ir { s with i := s.i + 1, d := s.d + 1 } ⟨by show 0 ≤ s.d + 1; omega, by show s.d + 1 ≤ 100; omega, by show ((s.i + 1 : Nat) : Int) + (s.d + 1) ≤ _; omega, fun _ => by show s.i + 1 ≤ _; omega⟩ (by omega) (by show _ ≤ 4 * (s.i + 1) + k; omega)
          rw [hb]
          exact ⟨_, rfl⟩
      repeat' split
      all_goals first | exact ⟨_, rfl⟩ | exact bracket3_total l s hi
    · intro es s hs h1 hk
      simp only [piece3]
      split
      · rename_i hc
        simp only [Bool.and_eq_true] at hc
        obtain ⟨hf, hi⟩ := more3_tt hc.1.1
        obtain ⟨r1, r2, r3, r4, r5, r6⟩ := repeat3_ok l s (by omega)
        by_cases hb : (repeat3 l s).1.2.2 = true
        · rw [if_pos hb, if_pos (fail_f _ (by decide))]
          exact ⟨_, rfl⟩
        rw [if_neg hb]
        have hnb : (repeat3 l s).1.2.2 = false := by simpa using hb
        split
        · exact ⟨_, rfl⟩
        · rename_i hne
          have hs1 : (repeat3 l s).2 = s := (r6 hnb).resolve_right (by simpa using hne)
          rw [hs1]
          obtain ⟨⟨e, s2⟩, ha⟩ := ia s hs hf hi (by omega)
          rw [ha]
          obtain ⟨a1, a2⟩ := (reads_ok l k).1 _ _ _ hs hf hi ha
          simp only []
          obtain ⟨⟨e', s3⟩, hr⟩ := reps3_total l (l.length + 2) e s2 (fun h => (a1.2.2 h).2.2) (by omega) (by omega)
          rw [hr]
          have st2 := a1.st hs
          obtain ⟨j1, j2, j3, j4, j5⟩ := reps3_ok l _ _ _ _ _ (fun h => (a1.2.2 h).2.2) hr
          have m3 : Mv l s2 s3 := ⟨j1, by have := st2.2.2.1; have := st2.2.1; omega, fun h => ⟨(j4 h).1, j3, (j4 h).2⟩⟩
          simp only []
          by_cases hf3 : s3.f = 0
          · have := (a2 (m3.2.2 hf3).1).1
            exact ip _ _ (m3.st st2) (by omega) (by omega)
          · obtain ⟨k', rfl⟩ : ∃ k', k = k' + 1 := ⟨k - 1, by omega⟩
            simp only [piece3]
            rw [if_neg (by simp [more3, hf3])]
            exact ⟨_, rfl⟩
      · exact ⟨_, rfl⟩
    · intro es s hs h1 hk
      simp only [branch3]
      split
      · rename_i hc
        simp only [Bool.and_eq_true] at hc
        obtain ⟨hf, hi⟩ := more3_tt hc.1
        have hs2 := hs.2.1
        have on1 : Mv l s s.on := ⟨rfl, by show ((s.i + 1 : Nat) : Int) + _ ≤ _; omega, fun h => ⟨h, by show s.i ≤ s.i + 1; omega, by show s.i + 1 ≤ _; omega⟩⟩
        obtain ⟨⟨e, s1⟩, hp⟩ := is s.on (on1.st hs) (by omega) (by show _ ≤ 4 * (s.i + 1) + k; omega)
        rw [hp]
        obtain ⟨p1, p2⟩ := (reads_ok l k).2.2.2.1 _ _ _ (on1.st hs) hp
        simp only []
        by_cases hf3 : s1.f = 0
        · have := (p1.2.2 hf3).2.1
          change s.i + 1 ≤ _ at this
          exact ib _ _ (p1.st (on1.st hs)) (by omega) (by omega)
        · obtain ⟨k', rfl⟩ : ∃ k', k = k' + 1 := ⟨k - 1, by omega⟩
          simp only [branch3]
          rw [if_neg (by simp [more3, hf3])]
          exact ⟨_, rfl⟩
      · exact ⟨_, rfl⟩
    · intro s hs h1 hk
      simp only [pieces3]
      obtain ⟨⟨r, s1⟩, hp⟩ := ip [] s hs (by omega) (by omega)
      rw [hp]
      rcases r with _ | (_ | ⟨e, _ | _⟩) <;> exact ⟨_, rfl⟩
    · intro s hs h1 hk
      simp only [branches3]
      obtain ⟨⟨e, s1⟩, hp⟩ := is s hs (by omega) (by omega)
      rw [hp]
      obtain ⟨p1, p2⟩ := (reads_ok l k).2.2.2.1 _ _ _ hs hp
      simp only []
      have : ∃ r, branch3 l k [e] s1 = some r := by
        by_cases hf3 : s1.f = 0
        · have := (p1.2.2 hf3).2.1
          exact ib _ _ (p1.st hs) (by omega) (by omega)
        · obtain ⟨k', rfl⟩ : ∃ k', k = k' + 1 := ⟨k - 1, by omega⟩
          simp only [branch3]
          rw [if_neg (by simp [more3, hf3])]
          exact ⟨_, rfl⟩
      obtain ⟨⟨es, s2⟩, hb⟩ := this
      rw [hb]
      rcases es with _ | ⟨e, _ | _⟩ <;> exact ⟨_, rfl⟩
end Go.Proofs.Ytddichibegppjaa
