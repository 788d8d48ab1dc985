/- How many nodes a tree has that is read. -/
import Derived.Test.YtddichibegppjaaP8
set_option linter.unusedSimpArgs false
set_option linter.unusedVariables false
namespace Go.Proofs.Ytddichibegppjaa
open Go Go.VC

mutual
def wt : Re → Nat
  | .node _ _ kids _ _ => wts kids + 1
def wts : List Re → Nat
  | [] => 0
  | k :: ks => wt k + wts ks
end
theorem wt_pos (e : Re) : 1 ≤ wt e := by cases e; simp [wt]
theorem wts_append : ∀ (a b : List Re), wts (a ++ b) = wts a + wts b
  | [], b => by simp [wts]
  | k :: a, b => by simp [wts, wts_append a b]; omega
theorem wts_mem : ∀ {es : List Re} {e : Re}, e ∈ es → wt e ≤ wts es
  | k :: es, e, h => by
    simp only [wts]
    rcases List.mem_cons.1 h with rfl | h
    · omega
    · have := wts_mem h; omega
theorem wts_len : ∀ (es : List Re), es.length ≤ wts es
  | [] => by simp [wts]
  | k :: es => by have := wts_len es; have := wt_pos k; simp [wts]; omega

theorem reps3_wt (l : List UInt8) : ∀ (k : Nat) (e : Re) (s : S3) (e' : Re) (s' : S3), (s.f = 0 → s.i ≤ l.length) → reps3 l k e s = some (e', s') → wt e' + 3 * s.i ≤ wt e + 3 * s'.i
  | 0, e, s, e', s', _, h => by simp [reps3] at h
  | k + 1, e, s, e', s', hi, h => by
    simp only [reps3] at h
    split at h
    · obtain ⟨rfl, rfl⟩ := by simpa using h
      exact Nat.le_refl _
    rename_i hf
    have hf0 : s.f = 0 := by simpa using hf
    obtain ⟨r1, r2, r3, r4, r5, r6⟩ := repeat3_ok l s (hi hf0)
    split at h
    · obtain ⟨rfl, rfl⟩ := by simpa using h
      omega
    · rename_i hb
      obtain ⟨t1, _⟩ := r5 (by simpa using hb)
      have := reps3_wt l k _ _ _ _ (fun _ => r3) h
      simp only [wt, wts] at this
      omega

def WA (l : List UInt8) (k : Nat) : Prop := ∀ s t s', St3 l s → s.f = 0 → s.i < l.length → atom3 l k s = some (t, s') → s'.f = 0 → wt t + 3 * s.i ≤ 3 * s'.i
def WP (l : List UInt8) (k : Nat) : Prop := ∀ es s es' s', St3 l s → piece3 l k es s = some (some es', s') → s'.f = 0 → wts es' + 3 * s.i ≤ wts es + 3 * s'.i
def WB (l : List UInt8) (k : Nat) : Prop := ∀ es s es' s', St3 l s → branch3 l k es s = some (es', s') → s'.f = 0 → wts es' + 3 * s.i ≤ wts es + 3 * s'.i
def WS (l : List UInt8) (k : Nat) : Prop := ∀ s t s', St3 l s → pieces3 l k s = some (t, s') → s'.f = 0 → wt t + 3 * s.i ≤ 3 * s'.i + 1
def WR (l : List UInt8) (k : Nat) : Prop := ∀ s t s', St3 l s → branches3 l k s = some (t, s') → s'.f = 0 → wt t + 3 * s.i ≤ 3 * s'.i + 2

theorem reads_wt (l : List UInt8) : ∀ k, WA l k ∧ WP l k ∧ WB l k ∧ WS l k ∧ WR l k
  | 0 => ⟨fun s t s' _ _ _ h => by simp [atom3] at h, fun es s r s' _ h => by simp [piece3] at h, fun es s r s' _ h => by simp [branch3] at h, fun s t s' _ h => by simp [pieces3] at h, fun s t s' _ h => by simp [branches3] at h⟩
  | k + 1 => by
    obtain ⟨ia, ip, ib, is, ir⟩ := reads_wt l k
    obtain ⟨oa, op, ob, os, or_⟩ := reads_ok l k
    refine ⟨?_, ?_, ?_, ?_, ?_⟩
    · intro s t s' hs hf hi h h0
      obtain ⟨⟨q1, q2, q3⟩, q4⟩ := (reads_ok l (k + 1)).1 s t s' hs hf hi h
      have q5 := (q4 h0).1
      have one : wt t = 1 → wt t + 3 * s.i ≤ 3 * s'.i := fun h => by omega
      obtain ⟨d0, d1, d2, d3⟩ := hs
      simp only [atom3] at h
      split at h
      · split at h
        · obtain ⟨rfl, rfl⟩ := by simpa using h
          exact absurd h0 (fail_f _ (by decide))
        · split at h
          · cases h
          · rename_i e s1 hb
            obtain ⟨rfl, rfl⟩ := by simpa using h
            split at h0
            · exact absurd h0 (fail_f _ (by decide))
            · rename_i hc
              have h1 : s1.f = 0 := h0
              have := ir _ _ _ ⟨by show 0 ≤ s.d + 1; omega, by show s.d + 1 ≤ 100; omega, by show ((s.i + 1 : Nat) : Int) + (s.d + 1) ≤ _; omega, fun _ => by show s.i + 1 ≤ _; omega⟩ hb h1
              change wt e + 3 * (s.i + 1) ≤ _ at this
              rw [if_neg hc]
              show wt e + 3 * s.i ≤ 3 * (s1.i + 1)
              omega
      repeat' split at h
      all_goals first
        | (obtain ⟨rfl, rfl⟩ := by simpa using h
           exact one rfl)
        | skip
      refine one ?_
      unfold bracket3 at h
      simp only [] at h
      split at h
      · cases h
      · obtain ⟨rfl, rfl⟩ := by simpa using h
        rfl
      · obtain ⟨rfl, rfl⟩ := by simpa using h
        rfl
    · intro es s es' s' hs h h0
      simp only [piece3] at h
      split at h
      · rename_i hc
        simp only [Bool.and_eq_true] at hc
        obtain ⟨hf, hi⟩ := more3_tt hc.1.1
        obtain ⟨r1, r2, r3, r4, r5, r6⟩ := repeat3_ok l s (by omega)
        by_cases hb : (repeat3 l s).1.2.2 = true
        · rw [if_pos hb, if_pos (fail_f _ (by decide))] at h
          cases h
        rw [if_neg hb] at h
        have hnb : (repeat3 l s).1.2.2 = false := by simpa using hb
        split at h
        · cases h
        · rename_i hne
          have hs1 : (repeat3 l s).2 = s := (r6 hnb).resolve_right (by simpa using hne)
          rw [hs1] at h
          split at h
          · cases h
          · rename_i e s2 ha
            obtain ⟨a1, a2⟩ := oa _ _ _ hs hf hi ha
            split at h
            · cases h
            · rename_i e' s3 hr
              have st2 := a1.st hs
              obtain ⟨j1, j2, j3, j4, j5⟩ := reps3_ok l _ _ _ _ _ (fun h => (a1.2.2 h).2.2) hr
              have m3 : Mv l s2 s3 := ⟨j1, by have := st2.2.2.1; have := st2.2.1; omega, fun h => ⟨(j4 h).1, j3, (j4 h).2⟩⟩
              obtain ⟨p1, p2⟩ := op _ _ _ _ (m3.st st2) h
              have h3 := (p1.2.2 h0).1
              have h2 := (m3.2.2 h3).1
              have e1 := ia _ _ _ hs hf hi ha h2
              have e2 := reps3_wt l _ _ _ _ _ (fun h => (a1.2.2 h).2.2) hr
              have e3 := ip _ _ _ _ (m3.st st2) h h0
              rw [wts_append] at e3
              simp only [wts] at e3
              omega
      · obtain ⟨rfl, rfl⟩ := by simpa using h
        exact Nat.le_refl _
    · intro es s es' s' hs h h0
      simp only [branch3] at h
      split at h
      · rename_i hc
        simp only [Bool.and_eq_true] at hc
        obtain ⟨hf, hi⟩ := more3_tt hc.1
        have hs2 := hs.2.1
        have on1 : Mv l s s.on := ⟨rfl, by show ((s.i + 1 : Nat) : Int) + _ ≤ _; omega, fun h => ⟨h, by show s.i ≤ s.i + 1; omega, by show s.i + 1 ≤ _; omega⟩⟩
        split at h
        · cases h
        · rename_i e s1 hp
          obtain ⟨p1, p2⟩ := os _ _ _ (on1.st hs) hp
          obtain ⟨b1, b2, b3⟩ := ob _ _ _ _ (p1.st (on1.st hs)) h
          have e1 := is _ _ _ (on1.st hs) hp (b1.2.2 h0).1
          change wt e + 3 * (s.i + 1) ≤ _ at e1
          have e3 := ib _ _ _ _ (p1.st (on1.st hs)) h h0
          rw [wts_append] at e3
          simp only [wts] at e3
          omega
      · obtain ⟨rfl, rfl⟩ := by simpa using h
        exact Nat.le_refl _
    · intro s t s' hs h h0
      simp only [pieces3] at h
      split at h
      · cases h
      · rename_i s1 hp
        obtain ⟨rfl, rfl⟩ := by simpa using h
        obtain ⟨p1, p2⟩ := op _ _ _ _ hs hp
        obtain ⟨es', h1, _⟩ := p2 h0 (by simp [Goods])
        cases h1
      · rename_i e s1 hp
        obtain ⟨rfl, rfl⟩ := by simpa using h
        have := ip _ _ _ _ hs hp h0
        simp only [wts] at this
        omega
      · rename_i es s1 _ hp
        obtain ⟨rfl, rfl⟩ := by simpa using h
        have := ip _ _ _ _ hs hp h0
        simp only [wts, wt] at this ⊢
        omega
    · intro s t s' hs h h0
      simp only [branches3] at h
      split at h
      · cases h
      · rename_i e s1 hp
        obtain ⟨p1, p2⟩ := os _ _ _ hs hp
        split at h
        · cases h
        · rename_i e2 s2 hb
          obtain ⟨rfl, rfl⟩ := by simpa using h
          obtain ⟨b1, b2, b3⟩ := ob _ _ _ _ (p1.st hs) hb
          have e1 := is _ _ _ hs hp (b1.2.2 h0).1
          have e2 := ib _ _ _ _ (p1.st hs) hb h0
          simp only [wts] at e2
          omega
        · rename_i es s2 _ hb
          obtain ⟨rfl, rfl⟩ := by simpa using h
          obtain ⟨b1, b2, b3⟩ := ob _ _ _ _ (p1.st hs) hb
          have e1 := is _ _ _ hs hp (b1.2.2 h0).1
          have e2 := ib _ _ _ _ (p1.st hs) hb h0
          simp only [wts, wt] at e2 ⊢
          omega

theorem St3_start (l : List UInt8) : St3 l ⟨0, 0, 0⟩ := ⟨by decide, by decide, by show ((0 : Nat) : Int) + 0 ≤ _; omega, fun _ => Nat.zero_le _⟩
theorem start_some (l : List UInt8) : ∃ r, branches3 l (4 * l.length + 3) ⟨0, 0, 0⟩ = some r := (reads_total l (4 * l.length + 3)).2.2.2.2 _ (St3_start l) (by omega) (by show _ ≤ 4 * 0 + _; omega)
/-- What is known of a tree that Parse answers. -/
theorem parse3_ok (l : List UInt8) (h : (parse3 l).2 = 0) : Good (parse3 l).1 ∧ size3 (parse3 l).1 ≤ 2000 ∧ wt (parse3 l).1 ≤ 3 * l.length + 2 := by
  obtain ⟨⟨e, s⟩, hr⟩ := start_some l
  unfold parse3 at h ⊢
  rw [hr] at h ⊢
  simp only [] at h ⊢
  split at h
  · rename_i hf; exact absurd h hf
  rename_i hf
  have hf0 : s.f = 0 := by simpa using hf
  rw [if_neg hf]
  split at h
  · cases h
  rename_i hi
  rw [if_neg hi]
  split at h
  · cases h
  rename_i hz
  rw [if_neg hz]
  obtain ⟨p1, p2⟩ := (reads_ok l _).2.2.2.2 _ _ _ (St3_start l) hr
  have p3 := (reads_wt l _).2.2.2.2 _ _ _ (St3_start l) hr hf0
  have p4 := (p1.2.2 hf0).2.2
  exact ⟨p2 hf0, by show size3 e ≤ 2000; omega, by show wt e ≤ _; simp at p3; omega⟩
theorem parse3_zero (l : List UInt8) (h : (parse3 l).2 ≠ 0) : (parse3 l).1 = Re.zero := by
  unfold parse3 at h ⊢
  split
  · rfl
  · rename_i e s hr
    rw [hr] at h
    simp only [] at h
    repeat' split
    all_goals first | rfl | (simp_all)
end Go.Proofs.Ytddichibegppjaa
