/- The reader is local: repeats, and the whole reader. -/
import Derived.Test.YtddichibegppjaaPd
set_option linter.unusedSimpArgs false
set_option linter.unusedVariables false
namespace Go.Proofs.Ytddichibegppjaa
open Go Go.VC

theorem nb (L : List UInt8) (i : Nat) (c : UInt8) : (decide ((i : Int) ≥ (L.length : Int)) || !(byteAt L i == c)) = !(decide (i < L.length) && byteAt L i == c) := by
  rcases Nat.lt_or_ge i L.length with h | h
  · rw [decide_eq_false (by omega : ¬ (i : Int) ≥ (L.length : Int)), decide_eq_true h]; simp
  · rw [decide_eq_true (by omega : (i : Int) ≥ (L.length : Int)), decide_eq_false (by omega)]; simp
theorem nc (L : List UInt8) (i : Nat) (c : UInt8) : (decide ((i : Int) < (L.length : Int)) && byteAt L i == c) = (decide (i < L.length) && byteAt L i == c) := by
  congr 1; exact decide_eq_decide.2 (by omega)
theorem nd (L : List UInt8) (i : Nat) : (decide ((i : Int) + 1 ≥ (L.length : Int)) || !digs 48 57 (byteAt L (i + 1))) = !(decide (i + 1 < L.length) && digs 48 57 (byteAt L (i + 1))) := by
  rcases Nat.lt_or_ge (i + 1) L.length with h | h
  · rw [decide_eq_false (by omega : ¬ (i : Int) + 1 ≥ (L.length : Int)), decide_eq_true h]; simp
  · rw [decide_eq_true (by omega : (i : Int) + 1 ≥ (L.length : Int)), decide_eq_false (by omega)]; simp
section
variable {s l : List UInt8} {p : Nat} {δ : Int} {σ : S3}
theorem digit_loc (h : Emb s l p) (hi : σ.i ≤ s.length) : digit3 l (sh p δ σ) = ((digit3 s σ).1, sh p δ (digit3 s σ).2) := by
  have hl := h.len
  unfold digit3
  have e : (sh p δ σ).i = p + σ.i := rfl
  rw [e, num_loc h s.length σ.i 0 false l.length (by omega) hi (by omega)]
  rfl
theorem digit_le (hi : σ.i ≤ s.length) : (digit3 s σ).2.i ≤ s.length := by
  have := (num3_i s s.length σ.i 0 false (by omega)).2.1
  show (num3 s s.length σ.i 0 false).2 ≤ _
  omega
theorem repeat_loc (h : Emb s l p) (hf : σ.f = 0) (hi : σ.i ≤ s.length) (hr : (repeat3 s σ).2.f = 0) : repeat3 l (sh p δ σ) = ((repeat3 s σ).1, sh p δ (repeat3 s σ).2) := by
  have hl := h.len
  have ei : (sh p δ σ).i = p + σ.i := rfl
  have eon : (sh p δ σ).on = sh p δ σ.on := by simp only [S3.on, sh, Nat.add_assoc]
  have m1 : more3 s σ = decide (σ.i < s.length) := mr hf s
  have m2 : more3 l (sh p δ σ) = true := by rw [mr (show (sh p δ σ).f = 0 from hf)]; exact decide_eq_true (by rw [ei]; omega)
  obtain ⟨R, hR⟩ : ∃ R, repeat3 s σ = R := ⟨_, rfl⟩
  rw [hR] at hr ⊢
  unfold repeat3 at hR ⊢
  rw [m1] at hR
  rw [m2, ei]
  rcases Nat.lt_or_ge σ.i s.length with h1 | h1
  case inr =>
    have h2 : σ.i = s.length := by omega
    rw [decide_eq_false (by omega), if_pos (by rfl)] at hR
    rw [h2, h.fin, ← hR]
    rfl
  rw [decide_eq_true h1, if_neg (by decide)] at hR
  rw [h.at_ h1, if_neg (by decide)]
  by_cases c1 : (byteAt s σ.i == 42) = true
  · rw [if_pos c1] at hR ⊢; rw [← hR, eon]
  rw [if_neg c1] at hR ⊢
  by_cases c2 : (byteAt s σ.i == 43) = true
  · rw [if_pos c2] at hR ⊢; rw [← hR, eon]
  rw [if_neg c2] at hR ⊢
  by_cases c3 : (byteAt s σ.i == 63) = true
  · rw [if_pos c3] at hR ⊢; rw [← hR, eon]
  rw [if_neg c3] at hR ⊢
  by_cases c4 : (byteAt s σ.i == 123) = true
  case neg => rw [if_neg c4] at hR ⊢; rw [← hR]
  rw [if_pos c4, nd] at hR
  rw [if_pos c4, nd, Nat.add_assoc, h.dig (by omega)]
  by_cases c5 : (!(decide (σ.i + 1 < s.length) && digs 48 57 (byteAt s (σ.i + 1)))) = true
  · rw [if_pos c5] at hR ⊢; rw [← hR]
  rw [if_neg c5] at hR ⊢
  have hd1 := digit_le (s := s) (σ := σ.on) (by show σ.i + 1 ≤ _; omega)
  rw [eon, digit_loc h (σ := σ.on) (by show σ.i + 1 ≤ _; omega)]
  generalize digit3 s σ.on = P at *
  obtain ⟨⟨m, b0⟩, s1⟩ := P
  simp only at hR hd1 ⊢
  have ei1 : (sh p δ s1).i = p + s1.i := rfl
  have eon1 : (sh p δ s1).on = sh p δ s1.on := by simp only [S3.on, sh, Nat.add_assoc]
  simp only [nc, ei1, h.has hd1 (c := 44) (by decide), eon1] at hR ⊢
  by_cases cm : (decide (s1.i < s.length) && byteAt s s1.i == 44) = true
  · have hs1 : s1.i < s.length := by simp only [Bool.and_eq_true, decide_eq_true_eq] at cm; exact cm.1
    have hd2 := digit_le (s := s) (σ := s1.on) (by show s1.i + 1 ≤ _; omega)
    rw [digit_loc h (σ := s1.on) (by show s1.i + 1 ≤ _; omega)]
    generalize digit3 s s1.on = P2 at *
    obtain ⟨⟨n, b1⟩, s2⟩ := P2
    simp only [cm, if_true] at hR hd2 ⊢
    generalize (if b1 = true then n else -1) = nn at *
    have ei2 : (sh p δ s2).i = p + s2.i := rfl
    have eon2 : (sh p δ s2).on = sh p δ s2.on := by simp only [S3.on, sh, Nat.add_assoc]
    rw [nb] at hR ⊢
    rw [ei2, h.has hd2 (by decide)]
    split at hR
    · rw [← hR] at hr; exact absurd hr (fail_ne (by decide))
    · rename_i hh
      rw [if_neg hh, ← hR, eon2]
  · have cm' : (decide (s1.i < s.length) && byteAt s s1.i == 44) = false := by simpa using cm
    simp only [cm', Bool.false_eq_true, if_false] at hR ⊢
    rw [nb] at hR ⊢
    rw [ei1, h.has hd1 (by decide)]
    split at hR
    · rw [← hR] at hr; exact absurd hr (fail_ne (by decide))
    · rename_i hh
      rw [if_neg hh, ← hR, eon1]
theorem reps_loc (h : Emb s l p) : ∀ (k : Nat) (e e' : Re) (σ σ' : S3) (K : Nat), σ.f = 0 → σ.i ≤ s.length → reps3 s k e σ = some (e', σ') → σ'.f = 0 → k ≤ K → reps3 l K e (sh p δ σ) = some (e', sh p δ σ')
  | 0, e, e', σ, σ', K, _, _, hr, _, _ => by simp [reps3] at hr
  | k + 1, e, e', σ, σ', K, hf, hi, hr, hf', hK => by
    obtain ⟨K, rfl⟩ : ∃ K', K = K' + 1 := ⟨K - 1, by omega⟩
    simp only [reps3] at hr ⊢
    rw [if_neg (by rw [hf]; simp)] at hr
    rw [if_neg (by show ¬ σ.f ≠ 0; rw [hf]; simp)]
    have hok := repeat3_ok s σ hi
    by_cases hb : (!(repeat3 s σ).1.2.2) = true
    · rw [if_pos hb] at hr
      injection hr with hr; injection hr with h1 h2
      subst h1; subst h2
      rw [repeat_loc h hf hi hf', if_pos hb]
    · rw [if_neg hb] at hr
      have hf2 : (repeat3 s σ).2.f = 0 := by
        have := reps3_ok s _ _ _ _ _ (fun _ => hok.2.2.1) hr
        exact (this.2.2.2.1 hf').1
      rw [repeat_loc h hf hi hf2, if_neg hb]
      exact reps_loc h k _ _ _ _ K hf2 hok.2.2.1 hr hf' (by omega)
end
end Go.Proofs.Ytddichibegppjaa
