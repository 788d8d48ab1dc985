/- The reader is local: a text within parentheses is read as it is read alone. -/
import Derived.Test.YtddichibegppjaaP9
set_option linter.unusedSimpArgs false
set_option linter.unusedVariables false
namespace Go.Proofs.Ytddichibegppjaa
open Go Go.VC

/-- A text that stands in another one, a closing parenthesis behind it. -/
structure Emb (s l : List UInt8) (p : Nat) : Prop where
  form : ∃ pre post, l = pre ++ (s ++ 41 :: post) ∧ pre.length = p
section
variable {s l : List UInt8} {p : Nat}
theorem Emb.drop (h : Emb s l p) : ∃ post, ∀ j, j ≤ s.length → l.drop (p + j) = s.drop j ++ 41 :: post := by
  obtain ⟨pre, post, rfl, rfl⟩ := h.form
  refine ⟨post, fun j hj => ?_⟩
  rw [List.drop_append, List.drop_of_length_le (by omega), List.nil_append, show pre.length + j - pre.length = j by omega, List.drop_append, show j - s.length = 0 by omega, List.drop_zero]
theorem Emb.len (h : Emb s l p) : p + s.length < l.length := by
  obtain ⟨pre, post, rfl, rfl⟩ := h.form; simp
theorem Emb.at_ (h : Emb s l p) {i : Nat} (hi : i < s.length) : byteAt l (p + i) = byteAt s i := by
  obtain ⟨pre, post, rfl, rfl⟩ := h.form
  simp only [byteAt, List.getD_eq_getElem?_getD]
  rw [List.getElem?_append_right (by omega), show pre.length + i - pre.length = i by omega, List.getElem?_append_left hi]
theorem Emb.fin (h : Emb s l p) : byteAt l (p + s.length) = 41 := by
  obtain ⟨pre, post, rfl, rfl⟩ := h.form
  simp only [byteAt, List.getD_eq_getElem?_getD]
  rw [List.getElem?_append_right (by omega), show pre.length + s.length - pre.length = s.length by omega, List.getElem?_append_right (by omega), Nat.sub_self]
  rfl
theorem Emb.has (h : Emb s l p) {i : Nat} (hi : i ≤ s.length) {c : UInt8} (hc : c ≠ 41) : (decide (p + i < l.length) && byteAt l (p + i) == c) = (decide (i < s.length) && byteAt s i == c) := by
  have hl := h.len
  rw [decide_eq_true (by omega : p + i < l.length), Bool.true_and]
  rcases Nat.lt_or_ge i s.length with h1 | h1
  · rw [h.at_ h1, decide_eq_true h1, Bool.true_and]
  · obtain rfl : i = s.length := by omega
    rw [h.fin, decide_eq_false (by omega), Bool.false_and]
    simpa using fun e => hc e.symm
theorem Emb.dig (h : Emb s l p) {i : Nat} (hi : i ≤ s.length) (g : UInt8) : (decide (p + i < l.length) && digs 48 g (byteAt l (p + i))) = (decide (i < s.length) && digs 48 g (byteAt s i)) := by
  have hl := h.len
  rw [decide_eq_true (by omega : p + i < l.length), Bool.true_and]
  rcases Nat.lt_or_ge i s.length with h1 | h1
  · rw [h.at_ h1, decide_eq_true h1, Bool.true_and]
  · obtain rfl : i = s.length := by omega
    rw [h.fin, decide_eq_false (by omega), Bool.false_and]; rfl

theorem oct_loc (h : Emb s l p) : ∀ (k i n : Nat), i ≤ s.length → oct3 l k (p + i) n = ((oct3 s k i n).1, p + (oct3 s k i n).2)
  | 0, i, n, hi => rfl
  | k + 1, i, n, hi => by
    unfold oct3
    rw [h.dig hi]
    by_cases hc : (decide (i < s.length) && digs 48 55 (byteAt s i)) = true
    · have hlt : i < s.length := by simp only [Bool.and_eq_true, decide_eq_true_eq] at hc; exact hc.1
      rw [if_pos hc, if_pos hc, h.at_ hlt, Nat.add_assoc]
      exact oct_loc h k (i + 1) _ hlt
    · rw [if_neg hc, if_neg hc]
theorem num_loc (h : Emb s l p) : ∀ (k i : Nat) (n : Int) (b : Bool) (K : Nat), s.length ≤ i + k → i ≤ s.length → k ≤ K → num3 l K (p + i) n b = ((num3 s k i n b).1, p + (num3 s k i n b).2)
  | 0, i, n, b, K, h1, h2, h3 => by
    have hd := h.dig h2 57
    rw [decide_eq_false (by omega : ¬ i < s.length), Bool.false_and] at hd
    cases K with
    | zero => rfl
    | succ K => unfold num3; rw [hd]; rfl
  | k + 1, i, n, b, K, h1, h2, h3 => by
    obtain ⟨K, rfl⟩ : ∃ K', K = K' + 1 := ⟨K - 1, by omega⟩
    unfold num3
    rw [h.dig h2]
    by_cases hc : (decide (i < s.length) && digs 48 57 (byteAt s i)) = true
    · have hlt : i < s.length := by simp only [Bool.and_eq_true, decide_eq_true_eq] at hc; exact hc.1
      rw [if_pos hc, if_pos hc, h.at_ hlt, Nat.add_assoc]
      exact num_loc h k (i + 1) _ true K (by omega) hlt (by omega)
    · rw [if_neg hc, if_neg hc]
theorem cl_loc (h : Emb s l p) : ∀ (k e K : Nat), s.length ≤ e + k → clEnd s k e + 1 < s.length → k ≤ K → clEnd l K (p + e) = p + clEnd s k e
  | 0, e, K, h0, h1, h2 => by have : clEnd s 0 e = e := rfl; omega
  | k + 1, e, K, h0, h1, h2 => by
    obtain ⟨K, rfl⟩ : ∃ K', K = K' + 1 := ⟨K - 1, by omega⟩
    have hl := h.len
    have hge := clEnd_le s (k + 1) e
    have he1 : e + 1 < s.length := by omega
    unfold clEnd at h1 ⊢
    have a0 := h.at_ (i := e) (by omega)
    have a1 := h.at_ (i := e + 1) (by omega)
    rw [Nat.add_assoc, a0, a1, decide_eq_true (by omega : p + (e + 1) < l.length)]
    rw [decide_eq_true (by omega : e + 1 < s.length)] at h1 ⊢
    by_cases hc : (true && !(byteAt s e == 58 && byteAt s (e + 1) == 93)) = true
    · rw [if_pos hc] at h1 ⊢
      rw [if_pos hc]
      exact cl_loc h k (e + 1) K (by omega) h1 (by omega)
    · rw [if_neg hc, if_neg hc]

/-- A state, shifted. -/
def sh (p : Nat) (δ : Int) (σ : S3) : S3 := { i := p + σ.i, f := σ.f, d := σ.d + δ }
variable {δ : Int} {σ : S3} {set : List Bool}
theorem fail_ne {σ : S3} {k : Int} (hk : k ≠ 0) : (σ.fail k).f ≠ 0 := fail_f σ hk
theorem mr {σ : S3} (h : σ.f = 0) (l : List UInt8) : more3 l σ = decide (σ.i < l.length) := by unfold more3; rw [h]; exact decide_eq_decide.2 (by omega)

theorem esc_loc (h : Emb s l p) (hf : σ.f = 0) (hi : σ.i < s.length) (hr : (escape3 s σ).2.f = 0) : escape3 l (sh p δ σ) = ((escape3 s σ).1, sh p δ (escape3 s σ).2) := by
  have hl := h.len
  have m1 : more3 s σ.on = decide (σ.i + 1 < s.length) := mr (σ := σ.on) hf s
  have m2 : more3 l (sh p δ σ).on = true := by rw [mr (show (sh p δ σ).on.f = 0 from hf)]; exact decide_eq_true (by show p + σ.i + 1 < _; omega)
  unfold escape3 at hr ⊢
  rw [m1] at hr ⊢
  rw [m2]
  rcases Nat.lt_or_ge (σ.i + 1) s.length with h1 | h1
  case inr =>
    rw [decide_eq_false (by omega), if_neg (by simp)] at hr
    exact absurd hr (fail_ne (by decide))
  rw [decide_eq_true h1, if_pos rfl, if_pos rfl]
  have hat := h.at_ h1
  have e : (sh p δ σ).i + 1 = p + (σ.i + 1) := by show p + σ.i + 1 = _; omega
  rw [e, hat]
  by_cases hc : digs 48 55 (byteAt s (σ.i + 1)) = true
  · rw [if_pos hc, if_pos hc, oct_loc h 3 (σ.i + 1) 0 (by omega)]; rfl
  · rw [if_neg hc, if_neg hc]
    show (_, S3.on (sh p δ σ) 2) = (_, sh p δ (σ.on 2))
    simp only [S3.on, sh, Nat.add_assoc]

theorem item_loc (h : Emb s l p) (hf : σ.f = 0) (hi : σ.i < s.length) (hr : (item3 s σ set).2.2.f = 0) : item3 l (sh p δ σ) set = ((item3 s σ set).1, (item3 s σ set).2.1, sh p δ (item3 s σ set).2.2) := by
  have hl := h.len
  have hat := h.at_ hi
  have ei : (sh p δ σ).i = p + σ.i := rfl
  have hc58 := h.has (i := σ.i + 1) (by omega) (c := 58) (by decide)
  unfold item3 at hr ⊢
  rw [ei, hat, Nat.add_assoc, Nat.add_assoc, Bool.and_assoc, hc58]
  rw [Bool.and_assoc] at hr ⊢
  by_cases hc : (byteAt s σ.i == 91 && (decide (σ.i + 1 < s.length) && byteAt s (σ.i + 1) == 58)) = true
  · rw [if_pos hc] at hr ⊢
    rw [if_pos hc]
    simp only at hr ⊢
    by_cases he : clEnd s s.length (σ.i + 2) + 1 ≥ s.length
    · rw [if_pos he] at hr; exact absurd hr (fail_ne (by decide))
    · rw [if_neg he] at hr ⊢
      rw [cl_loc h s.length (σ.i + 2) l.length (by omega) (by omega) (by omega), if_neg (by omega)]
      have hge := clEnd_le s s.length (σ.i + 2)
      obtain ⟨post, hd⟩ := h.drop
      have hn : (l.drop (p + (σ.i + 2))).take (p + clEnd s s.length (σ.i + 2) - (p + (σ.i + 2))) = (s.drop (σ.i + 2)).take (clEnd s s.length (σ.i + 2) - (σ.i + 2)) := by
        rw [hd _ (by omega), show p + clEnd s s.length (σ.i + 2) - (p + (σ.i + 2)) = clEnd s s.length (σ.i + 2) - (σ.i + 2) by omega, List.take_append_of_le_length (by simp; omega)]
      rw [hn]
      by_cases hin : (in3 ((s.drop (σ.i + 2)).take (clEnd s s.length (σ.i + 2) - (σ.i + 2))) 0).2 = true
      · rw [if_pos hin, if_pos hin]; rfl
      · rw [if_neg hin] at hr; exact absurd hr (fail_ne (by decide))
  · rw [if_neg hc] at hr ⊢
    rw [if_neg hc]
    by_cases h92 : (byteAt s σ.i == 92) = true
    · rw [if_pos h92] at hr ⊢
      rw [if_pos h92, esc_loc h hf hi hr]
    · rw [if_neg h92, if_neg h92]; rfl

theorem items_none {l : List UInt8} : ∀ (k : Nat) (first : Bool) (set : List Bool) (σ σ' : S3), items3 l k first set σ = some (none, σ') → σ'.f ≠ 0
  | 0, first, set, σ, σ', h => by simp [items3] at h
  | k + 1, first, set, σ, σ', h => by
    simp only [items3] at h
    split at h
    · rename_i h1; injection h with h; injection h with _ h; rw [← h]; exact h1
    · split at h
      · injection h with h; injection h with _ h; rw [← h]; exact fail_ne (by decide)
      · split at h
        · injection h with h; injection h with h _; cases h
        · split at h
          · rename_i h1; injection h with h; injection h with _ h; rw [← h]; exact h1
          · split at h
            · split at h
              · injection h with h; injection h with _ h; rw [← h]; exact fail_ne (by decide)
              · split at h
                · rename_i h1; injection h with h; injection h with _ h; rw [← h]; exact h1
                · split at h
                  · injection h with h; injection h with _ h; rw [← h]; exact fail_ne (by decide)
                  · exact items_none k _ _ _ _ h
            · exact items_none k _ _ _ _ h
theorem items_at {l : List UInt8} {k : Nat} {first : Bool} {set set' : List Bool} {σ σ' : S3} (h : items3 l k first set σ = some (some set', σ')) : σ.f = 0 ∧ σ.i < l.length := by
  cases k with
  | zero => simp [items3] at h
  | succ k =>
    simp only [items3] at h
    split at h
    · injection h with h; injection h with h _; cases h
    · rename_i h1
      split at h
      · injection h with h; injection h with h _; cases h
      · exact ⟨by simpa using h1, by omega⟩
theorem items_last {l : List UInt8} {k : Nat} {set set' : List Bool} {σ σ' : S3} (h : items3 l k false set σ = some (some set', σ')) : byteAt l σ.i = 93 ∨ σ.i + 1 < l.length := by
  obtain ⟨h1, h2⟩ := items_at h
  cases k with
  | zero => simp [items3] at h
  | succ k =>
    by_cases h93 : byteAt l σ.i = 93
    · exact .inl h93
    · refine .inr ?_
      simp only [items3] at h
      rw [if_neg (by rw [h1]; simp), if_neg (by omega), if_neg (by simpa using h93)] at h
      split at h
      · injection h with h; injection h with h _; cases h
      · rename_i h3
        have h4 := (item3_ok l σ set h2 (by simpa using h3)).2.1
        split at h
        · rename_i h5
          simp only [Bool.and_eq_true, decide_eq_true_eq] at h5
          have := h5.1.1; omega
        · have := (items_at h).2; omega
theorem items_loc (h : Emb s l p) : ∀ (k : Nat) (first : Bool) (set set' : List Bool) (σ σ' : S3) (K : Nat), items3 s k first set σ = some (some set', σ') → k ≤ K → items3 l K first set (sh p δ σ) = some (some set', sh p δ σ')
  | 0, first, set, set', σ, σ', K, hr, _ => by simp [items3] at hr
  | k + 1, first, set, set', σ, σ', K, hr, hK => by
    obtain ⟨K, rfl⟩ : ∃ K', K = K' + 1 := ⟨K - 1, by omega⟩
    obtain ⟨hf, hi⟩ := items_at hr
    have hl := h.len
    have hat := h.at_ hi
    have ei : (sh p δ σ).i = p + σ.i := rfl
    have ef : (sh p δ σ).f = σ.f := rfl
    simp only [items3] at hr ⊢
    rw [if_neg (by rw [hf]; simp), if_neg (by omega)] at hr
    rw [if_neg (by rw [ef, hf]; simp), if_neg (by rw [ei]; omega), ei, hat]
    by_cases hc : (byteAt s σ.i == 93 && !first) = true
    · rw [if_pos hc] at hr ⊢
      injection hr with hr; injection hr with h1 h2; injection h1 with h1
      subst h1; subst h2
      simp only [S3.on, sh, Nat.add_assoc]
    rw [if_neg hc] at hr ⊢
    obtain ⟨h1, hr⟩ : (item3 s σ set).2.2.f = 0 ∧ _ := by
      by_cases h1 : (item3 s σ set).2.2.f ≠ 0
      · rw [if_pos h1] at hr; injection hr with hr; injection hr with hr _; cases hr
      · rw [if_neg h1] at hr; exact ⟨by simpa using h1, hr⟩
    have hok := (item3_ok s σ set hi h1).2
    rw [item_loc h hf hi h1]
    generalize item3 s σ set = r at *
    obtain ⟨⟨lo, single⟩, set1, s1⟩ := r
    simp only at h1 hr hok ⊢
    have ef1 : (sh p δ s1).f = s1.f := rfl
    have ei1 : (sh p δ s1).i = p + s1.i := rfl
    have eon : (sh p δ s1).on = sh p δ s1.on := by simp only [S3.on, sh, Nat.add_assoc]
    rw [if_neg (by rw [ef1, h1]; simp)]
    by_cases hlt : s1.i + 1 < s.length
    · have a0 := h.at_ (i := s1.i) (by omega)
      have a1 := h.at_ (i := s1.i + 1) hlt
      rw [ei1, Nat.add_assoc, a0, a1, decide_eq_true (by omega : ((p + s1.i : Nat) : Int) + 1 < (l.length : Int))]
      rw [decide_eq_true (by omega : (s1.i : Int) + 1 < (s.length : Int))] at hr
      by_cases hd : (true && byteAt s s1.i == 45 && !(byteAt s (s1.i + 1) == 93)) = true
      · rw [if_pos hd] at hr ⊢
        cases single with
        | false => rw [if_pos (by rfl)] at hr; injection hr with hr; injection hr with hr _; cases hr
        | true =>
        rw [if_neg (by simp)] at hr ⊢
        obtain ⟨h2, hr⟩ : (item3 s s1.on noSet).2.2.f = 0 ∧ _ := by
          by_cases h2 : (item3 s s1.on noSet).2.2.f ≠ 0
          · rw [if_pos h2] at hr; injection hr with hr; injection hr with hr _; cases hr
          · rw [if_neg h2] at hr; exact ⟨by simpa using h2, hr⟩
        rw [eon, item_loc h (σ := s1.on) h1 hlt h2]
        generalize item3 s s1.on noSet = q at *
        obtain ⟨⟨hi2, one⟩, set2, s2⟩ := q
        simp only at h2 hr ⊢
        have ef2 : (sh p δ s2).f = s2.f := rfl
        rw [if_neg (by rw [ef2, h2]; simp)]
        split at hr
        · injection hr with hr; injection hr with hr _; cases hr
        · rename_i h3
          rw [if_neg h3]
          exact items_loc h k _ _ _ _ _ K hr (by omega)
      · rw [if_neg hd] at hr ⊢
        exact items_loc h k _ _ _ _ _ K hr (by omega)
    · rw [decide_eq_false (by omega : ¬ (s1.i : Int) + 1 < (s.length : Int)), Bool.false_and, Bool.false_and, if_neg (by simp)] at hr
      have h93 := (items_last hr).resolve_right hlt
      have h4 := (items_at hr).2
      rw [ei1, h.at_ h4, h93, if_neg (by simp)]
      exact items_loc h k _ _ _ _ _ K hr (by omega)

theorem brk_loc (h : Emb s l p) (hf : σ.f = 0) (hi : σ.i < s.length) {t : Re} {σ' : S3} (hr : bracket3 s σ = some (t, σ')) (hf' : σ'.f = 0) : bracket3 l (sh p δ σ) = some (t, sh p δ σ') := by
  have hl := h.len
  have hc := h.has (i := σ.i + 1) (by omega) (c := 94) (by decide)
  have eon : (sh p δ σ).on = sh p δ σ.on := by simp only [S3.on, sh, Nat.add_assoc]
  have eon2 : (sh p δ σ.on).on = sh p δ σ.on.on := by simp only [S3.on, sh, Nat.add_assoc]
  have m1 : more3 s σ.on = decide (σ.i + 1 < s.length) := mr (σ := σ.on) hf s
  have m2 : more3 l (sh p δ σ.on) = decide (p + (σ.i + 1) < l.length) := mr (σ := sh p δ σ.on) hf l
  have ei : (sh p δ σ.on).i = p + (σ.i + 1) := rfl
  have ei2 : σ.on.i = σ.i + 1 := rfl
  unfold bracket3 at hr ⊢
  simp only [eon, m2, ei, hc, eon2]
  simp only [m1, ei2] at hr
  generalize (decide (σ.i + 1 < s.length) && byteAt s (σ.i + 1) == 94) = nt at *
  have es : (if nt = true then sh p δ σ.on.on else sh p δ σ.on) = sh p δ (if nt = true then σ.on.on else σ.on) := by cases nt <;> rfl
  rw [es]
  cases hit : items3 s (s.length + 2) true noSet (if nt = true then σ.on.on else σ.on) with
  | none => rw [hit] at hr; cases hr
  | some r =>
    obtain ⟨o, s3⟩ := r
    rw [hit] at hr
    cases o with
    | none =>
      injection hr with hr; injection hr with _ hr
      rw [← hr] at hf'
      exact absurd hf' (items_none _ _ _ _ _ hit)
    | some set' =>
      rw [items_loc h _ _ _ _ _ _ (l.length + 2) hit (by omega)]
      injection hr with hr; injection hr with h1 h2
      rw [← h1, ← h2]
end
end Go.Proofs.Ytddichibegppjaa
