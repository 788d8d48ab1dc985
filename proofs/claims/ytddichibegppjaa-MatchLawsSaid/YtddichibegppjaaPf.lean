/- The reader is local: the whole of it; more fuel changes nothing. -/
import Derived.Test.YtddichibegppjaaPe
set_option linter.unusedSimpArgs false
set_option linter.unusedVariables false
namespace Go.Proofs.Ytddichibegppjaa
open Go Go.VC

theorem reads_mono (l : List UInt8) : ∀ k, (∀ σ r, atom3 l k σ = some r → atom3 l (k + 1) σ = some r) ∧ (∀ es σ r, piece3 l k es σ = some r → piece3 l (k + 1) es σ = some r) ∧
    (∀ es σ r, branch3 l k es σ = some r → branch3 l (k + 1) es σ = some r) ∧ (∀ σ r, pieces3 l k σ = some r → pieces3 l (k + 1) σ = some r) ∧ (∀ σ r, branches3 l k σ = some r → branches3 l (k + 1) σ = some r)
  | 0 => ⟨fun _ _ h => by simp [atom3] at h, fun _ _ _ h => by simp [piece3] at h, fun _ _ _ h => by simp [branch3] at h, fun _ _ h => by simp [pieces3] at h, fun _ _ h => by simp [branches3] at h⟩
  | k + 1 => by
    obtain ⟨ha, hp, hb, hs, hr⟩ := reads_mono l k
    refine ⟨fun σ r h => ?_, fun es σ r h => ?_, fun es σ r h => ?_, fun σ r h => ?_, fun σ r h => ?_⟩
    · rw [atom3] at h ⊢
      simp only at h ⊢
      by_cases c : (byteAt l σ.i == 40) = true
      · rw [if_pos c] at h ⊢
        by_cases d : σ.d ≥ 100
        · rw [if_pos d] at h ⊢; exact h
        · rw [if_neg d] at h ⊢
          cases hq : branches3 l k { i := σ.i + 1, f := σ.f, d := σ.d + 1 } with
          | none => rw [hq] at h; cases h
          | some q => rw [hq] at h; rw [hr _ _ hq]; exact h
      · rw [if_neg c] at h ⊢; exact h
    · rw [piece3] at h ⊢
      by_cases c : (more3 l σ && !byteAt l σ.i == 124 && !byteAt l σ.i == 41) = true
      · rw [if_pos c] at h ⊢
        simp only at h ⊢
        generalize (if (repeat3 l σ).1.2.2 = true then (repeat3 l σ).2.fail 3 else (repeat3 l σ).2) = s1 at *
        by_cases d : s1.f ≠ 0
        · rw [if_pos d] at h ⊢; exact h
        · rw [if_neg d] at h ⊢
          cases hq : atom3 l k s1 with
          | none => rw [hq] at h; cases h
          | some q =>
            rw [hq] at h; rw [ha _ _ hq]
            simp only at h ⊢
            cases hz : reps3 l (l.length + 2) q.1 q.2 with
            | none => rw [hz] at h; cases h
            | some z => rw [hz] at h; exact hp _ _ _ h
      · rw [if_neg c] at h ⊢; exact h
    · rw [branch3] at h ⊢
      by_cases c : (more3 l σ && byteAt l σ.i == 124) = true
      · rw [if_pos c] at h ⊢
        cases hq : pieces3 l k σ.on with
        | none => rw [hq] at h; cases h
        | some q => rw [hq] at h; rw [hs _ _ hq]; exact hb _ _ _ h
      · rw [if_neg c] at h ⊢; exact h
    · rw [pieces3] at h ⊢
      cases hq : piece3 l k [] σ with
      | none => rw [hq] at h; cases h
      | some q => rw [hq] at h; rw [hp _ _ _ hq]; exact h
    · rw [branches3] at h ⊢
      cases hq : pieces3 l k σ with
      | none => rw [hq] at h; cases h
      | some q =>
        rw [hq] at h; rw [hs _ _ hq]
        simp only at h ⊢
        cases hz : branch3 l k [q.1] q.2 with
        | none => rw [hz] at h; cases h
        | some z => rw [hz] at h; rw [hb _ _ _ hz]; exact h
theorem branches_more {l : List UInt8} {k : Nat} {σ : S3} {r : Re × S3} (h : branches3 l k σ = some r) : ∀ m, branches3 l (k + m) σ = some r
  | 0 => h
  | m + 1 => (reads_mono l (k + m)).2.2.2.2 _ _ (branches_more h m)

theorem more_no {l : List UInt8} {σ : S3} (h : σ.f ≠ 0) : more3 l σ = false := by unfold more3; simp [h]
theorem piece_no {l : List UInt8} {k : Nat} {es : List Re} {σ : S3} {R : Option (List Re) × S3} (hR : piece3 l k es σ = some R) (h : R.2.f = 0) : σ.f = 0 := by
  apply Classical.byContradiction
  intro hf
  cases k with
  | zero => simp [piece3] at hR
  | succ k => simp only [piece3, more_no hf] at hR; rw [if_neg (by simp)] at hR; injection hR with hR; rw [← hR] at h; exact hf h
theorem branch_no {l : List UInt8} {k : Nat} {es : List Re} {σ : S3} {R : List Re × S3} (hR : branch3 l k es σ = some R) (h : R.2.f = 0) : σ.f = 0 := by
  apply Classical.byContradiction
  intro hf
  cases k with
  | zero => simp [branch3] at hR
  | succ k => simp only [branch3, more_no hf] at hR; rw [if_neg (by simp)] at hR; injection hR with hR; rw [← hR] at h; exact hf h
theorem reps_no {l : List UInt8} {k : Nat} {e : Re} {σ : S3} {R : Re × S3} (hR : reps3 l k e σ = some R) (h : R.2.f = 0) : σ.f = 0 := by
  apply Classical.byContradiction
  intro hf
  cases k with
  | zero => simp [reps3] at hR
  | succ k => simp only [reps3] at hR; rw [if_pos hf] at hR; injection hR with hR; rw [← hR] at h; exact hf h
theorem piece_some {l : List UInt8} : ∀ {k : Nat} {es : List Re} {σ : S3} {R : Option (List Re) × S3}, piece3 l k es σ = some R → R.2.f = 0 → ∃ es', R.1 = some es'
  | 0, es, σ, R, hR, _ => by simp [piece3] at hR
  | k + 1, es, σ, R, hR, h => by
    rw [piece3] at hR
    by_cases c : (more3 l σ && !byteAt l σ.i == 124 && !byteAt l σ.i == 41) = true
    · rw [if_pos c] at hR
      simp only at hR
      generalize (if (repeat3 l σ).1.2.2 = true then (repeat3 l σ).2.fail 3 else (repeat3 l σ).2) = s1 at *
      by_cases d : s1.f ≠ 0
      · rw [if_pos d] at hR; injection hR with hR; rw [← hR] at h; exact absurd h d
      · rw [if_neg d] at hR
        cases hq : atom3 l k s1 with
        | none => rw [hq] at hR; cases hR
        | some q =>
          rw [hq] at hR
          simp only at hR
          cases hz : reps3 l (l.length + 2) q.1 q.2 with
          | none => rw [hz] at hR; cases hR
          | some z => rw [hz] at hR; exact piece_some hR h
    · rw [if_neg c] at hR; injection hR with hR; rw [← hR]; exact ⟨_, rfl⟩

section
variable {s l : List UInt8} {p : Nat} {δ : Int}
def LA (s l : List UInt8) (p : Nat) (δ : Int) (k : Nat) : Prop := ∀ σ t σ' r, St3 s σ → σ.f = 0 → σ.i < s.length → atom3 s k σ = some (t, σ') → σ'.f = 0 → atom3 l k (sh p δ σ) = some r → r.2.f = 0 → r = (t, sh p δ σ')
def LP (s l : List UInt8) (p : Nat) (δ : Int) (k : Nat) : Prop := ∀ es σ o σ' r, St3 s σ → σ.f = 0 → piece3 s k es σ = some (o, σ') → σ'.f = 0 → piece3 l k es (sh p δ σ) = some r → r.2.f = 0 → r = (o, sh p δ σ')
def LB (s l : List UInt8) (p : Nat) (δ : Int) (k : Nat) : Prop := ∀ es σ o σ' r, St3 s σ → σ.f = 0 → branch3 s k es σ = some (o, σ') → σ'.f = 0 → branch3 l k es (sh p δ σ) = some r → r.2.f = 0 → r = (o, sh p δ σ')
def LS (s l : List UInt8) (p : Nat) (δ : Int) (k : Nat) : Prop := ∀ σ o σ' r, St3 s σ → σ.f = 0 → pieces3 s k σ = some (o, σ') → σ'.f = 0 → pieces3 l k (sh p δ σ) = some r → r.2.f = 0 → r = (o, sh p δ σ')
def LR (s l : List UInt8) (p : Nat) (δ : Int) (k : Nat) : Prop := ∀ σ o σ' r, St3 s σ → σ.f = 0 → branches3 s k σ = some (o, σ') → σ'.f = 0 → branches3 l k (sh p δ σ) = some r → r.2.f = 0 → r = (o, sh p δ σ')

theorem sh_on (σ : S3) (n : Nat) : (sh p δ σ).on n = sh p δ (σ.on n) := by simp only [S3.on, sh, Nat.add_assoc]
theorem LB_step (h : Emb s l p) {k : Nat} (hS : LS s l p δ k) (hB : LB s l p δ k) : LB s l p δ (k + 1) := by
  intro es σ o σ' r hst hf hr hf' hl hlf
  have hi := hst.2.2.2 hf
  have ei : (sh p δ σ).i = p + σ.i := rfl
  have ef : (sh p δ σ).f = 0 := hf
  rw [branch3, mr hf] at hr
  rw [branch3, mr ef, ei, h.has hi (by decide)] at hl
  by_cases c : (decide (σ.i < s.length) && byteAt s σ.i == 124) = true
  · rw [if_pos c] at hr hl
    have hlt : σ.i < s.length := by simp only [Bool.and_eq_true, decide_eq_true_eq] at c; exact c.1
    rw [show (sh p δ σ).on = sh p δ σ.on from sh_on σ 1] at hl
    have on1 : Mv s σ σ.on := ⟨rfl, by show ((σ.i + 1 : Nat) : Int) + _ ≤ _; have := hst.2.1; omega, fun h => ⟨h, by show σ.i ≤ σ.i + 1; omega, by show σ.i + 1 ≤ _; omega⟩⟩
    have hst1 := on1.st hst
    cases hq : pieces3 s k σ.on with
    | none => rw [hq] at hr; cases hr
    | some q =>
      rw [hq] at hr
      cases hz : pieces3 l k (sh p δ σ.on) with
      | none => rw [hz] at hl; cases hl
      | some z =>
        rw [hz] at hl
        obtain ⟨e, s1⟩ := q
        have f1 : s1.f = 0 := branch_no hr hf'
        have f2 : z.2.f = 0 := branch_no hl hlf
        have := hS _ _ _ _ hst1 hf hq f1 hz f2
        subst this
        obtain ⟨m1, _⟩ := (reads_ok s k).2.2.2.1 _ _ _ hst1 hq
        exact hB _ _ _ _ _ (m1.st hst1) f1 hr hf' hl hlf
  · rw [if_neg c] at hr hl
    injection hr with hr; injection hr with h1 h2
    injection hl with hl
    rw [← hl, ← h1, ← h2]
theorem LS_step {k : Nat} (hP : LP s l p δ k) : LS s l p δ (k + 1) := by
  intro σ o σ' r hst hf hr hf' hl hlf
  rw [pieces3] at hr hl
  cases hq : piece3 s k [] σ with
  | none => rw [hq] at hr; cases hr
  | some q =>
    cases hz : piece3 l k [] (sh p δ σ) with
    | none => rw [hz] at hl; cases hl
    | some z =>
      rw [hq] at hr
      rw [hz] at hl
      obtain ⟨o1, s1⟩ := q
      obtain ⟨o2, z1⟩ := z
      have fs : s1.f = 0 ∧ ∃ es, o1 = some es := by
        cases o1 with
        | none =>
          injection hr with hr; injection hr with _ hr
          subst hr
          obtain ⟨es', he⟩ := piece_some hq hf'
          cases he
        | some es =>
          have : s1 = σ' := by
            match es, hr with
            | [], hr => injection hr with hr; injection hr
            | [e], hr => injection hr with hr; injection hr
            | _ :: _ :: _, hr => injection hr with hr; injection hr
          exact ⟨this ▸ hf', es, rfl⟩
      have fz : z1.f = 0 := by
        match o2, hl with
        | none, hl => injection hl with hl; rw [← hl] at hlf; exact hlf
        | some [], hl => injection hl with hl; rw [← hl] at hlf; exact hlf
        | some [e], hl => injection hl with hl; rw [← hl] at hlf; exact hlf
        | some (_ :: _ :: _), hl => injection hl with hl; rw [← hl] at hlf; exact hlf
      have := hP _ _ _ _ _ hst hf hq fs.1 hz fz
      injection this with h1 h2
      subst h1; subst h2
      obtain ⟨_, es, rfl⟩ := fs
      match es, hr, hl with
      | [], hr, hl => injection hr with hr; injection hr with h1 h2; injection hl with hl; rw [← hl, ← h1, ← h2]
      | [e], hr, hl => injection hr with hr; injection hr with h1 h2; injection hl with hl; rw [← hl, ← h1, ← h2]
      | _ :: _ :: _, hr, hl => injection hr with hr; injection hr with h1 h2; injection hl with hl; rw [← hl, ← h1, ← h2]
theorem LR_step {k : Nat} (hS : LS s l p δ k) (hB : LB s l p δ k) : LR s l p δ (k + 1) := by
  intro σ o σ' r hst hf hr hf' hl hlf
  rw [branches3] at hr hl
  cases hq : pieces3 s k σ with
  | none => rw [hq] at hr; cases hr
  | some q =>
    cases hz : pieces3 l k (sh p δ σ) with
    | none => rw [hz] at hl; cases hl
    | some z =>
      rw [hq] at hr
      rw [hz] at hl
      simp only at hr hl
      obtain ⟨e, s1⟩ := q
      obtain ⟨e2, z1⟩ := z
      simp only at hr hl
      cases hq2 : branch3 s k [e] s1 with
      | none => rw [hq2] at hr; cases hr
      | some q2 =>
        cases hz2 : branch3 l k [e2] z1 with
        | none => rw [hz2] at hl; cases hl
        | some z2 =>
          rw [hq2] at hr
          rw [hz2] at hl
          obtain ⟨es, s2⟩ := q2
          obtain ⟨es2, y2⟩ := z2
          have f2 : s2 = σ' := by
            match es, hr with
            | [], hr => injection hr with hr; injection hr
            | [e], hr => injection hr with hr; injection hr
            | _ :: _ :: _, hr => injection hr with hr; injection hr
          have g2 : y2 = r.2 := by
            match es2, hl with
            | [], hl => injection hl with hl; rw [← hl]
            | [e], hl => injection hl with hl; rw [← hl]
            | _ :: _ :: _, hl => injection hl with hl; rw [← hl]
          have f1 : s1.f = 0 := branch_no hq2 (f2 ▸ hf')
          have g1 : z1.f = 0 := branch_no hz2 (by rw [show (es2, y2).2 = y2 from rfl, g2]; exact hlf)
          have := hS _ _ _ _ hst hf hq f1 hz g1
          injection this with h1 h3
          subst h1; subst h3
          obtain ⟨m1, _⟩ := (reads_ok s k).2.2.2.1 _ _ _ hst hq
          have := hB _ _ _ _ _ (m1.st hst) f1 hq2 (f2 ▸ hf') hz2 (by rw [show (es2, y2).2 = y2 from rfl, g2]; exact hlf)
          injection this with h1 h3
          subst h1
          rw [g2] at h3
          rw [← f2, ← h3]
          match es2, hr, hl with
          | [], hr, hl => injection hr with hr; injection hr with h1 _; injection hl with hl; rw [← hl, ← h1]
          | [e], hr, hl => injection hr with hr; injection hr with h1 _; injection hl with hl; rw [← hl, ← h1]
          | _ :: _ :: _, hr, hl => injection hr with hr; injection hr with h1 _; injection hl with hl; rw [← hl, ← h1]
theorem LP_step (h : Emb s l p) {k : Nat} (hA : LA s l p δ k) (hP : LP s l p δ k) : LP s l p δ (k + 1) := by
  intro es σ o σ' r hst hf hr hf' hl hlf
  have hi := hst.2.2.2 hf
  have hlen := h.len
  have ei : (sh p δ σ).i = p + σ.i := rfl
  have ef : (sh p δ σ).f = 0 := hf
  rw [piece3, mr hf] at hr
  rw [piece3, mr ef, ei, decide_eq_true (by omega : p + σ.i < l.length)] at hl
  have hcond : (true && !byteAt l (p + σ.i) == 124 && !byteAt l (p + σ.i) == 41) = (decide (σ.i < s.length) && !byteAt s σ.i == 124 && !byteAt s σ.i == 41) := by
    rcases Nat.lt_or_ge σ.i s.length with h1 | h1
    · rw [h.at_ h1, decide_eq_true h1]
    · have h2 : σ.i = s.length := by omega
      rw [h2, h.fin, decide_eq_false (by omega)]; rfl
  rw [hcond] at hl
  by_cases c : (decide (σ.i < s.length) && !byteAt s σ.i == 124 && !byteAt s σ.i == 41) = true
  · rw [if_pos c] at hr hl
    have hlt : σ.i < s.length := by simp only [Bool.and_eq_true, decide_eq_true_eq] at c; exact c.1.1
    simp only at hr hl
    have hok := repeat3_ok s σ hi
    have hrep : (repeat3 s σ).1.2.2 = false ∧ (repeat3 s σ).2.f = 0 := by
      cases hb : (repeat3 s σ).1.2.2 with
      | true =>
        rw [hb, if_pos rfl, if_pos (fail_ne (by decide))] at hr
        injection hr with hr; injection hr with _ hr
        rw [← hr] at hf'; exact absurd hf' (fail_ne (by decide))
      | false =>
        refine ⟨rfl, Classical.byContradiction fun h2 => ?_⟩
        simp only [hb, Bool.false_eq_true, if_false] at hr
        rw [if_pos h2] at hr
        injection hr with hr; injection hr with _ hr
        rw [← hr] at hf'; exact h2 hf'
    have hsame : (repeat3 s σ).2 = σ := (hok.2.2.2.2.2 hrep.1).resolve_right (by rw [hrep.2]; simp)
    rw [repeat_loc h hf hi hrep.2] at hl
    simp only [hrep.1, hsame, Bool.false_eq_true, if_false] at hr hl
    rw [if_neg (by rw [hf]; simp)] at hr
    rw [if_neg (by rw [ef]; simp)] at hl
    cases hq : atom3 s k σ with
    | none => rw [hq] at hr; cases hr
    | some q =>
      cases hz : atom3 l k (sh p δ σ) with
      | none => rw [hz] at hl; cases hl
      | some z =>
        obtain ⟨e, s2⟩ := q
        obtain ⟨e2, z2⟩ := z
        rw [hq] at hr
        rw [hz] at hl
        simp only at hr hl
        cases hq2 : reps3 s (s.length + 2) e s2 with
        | none => rw [hq2] at hr; cases hr
        | some q2 =>
          cases hz2 : reps3 l (l.length + 2) e2 z2 with
          | none => rw [hz2] at hl; cases hl
          | some y2 =>
            obtain ⟨e', s3⟩ := q2
            obtain ⟨e2', z3⟩ := y2
            rw [hq2] at hr
            rw [hz2] at hl
            simp only at hr hl
            have f3 : s3.f = 0 := piece_no hr hf'
            have g3 : z3.f = 0 := piece_no hl hlf
            have f2 : s2.f = 0 := reps_no hq2 f3
            have g2 : z2.f = 0 := reps_no hz2 g3
            have := hA _ _ _ _ hst hf hlt hq f2 hz g2
            injection this with h1 h3
            subst h1; subst h3
            obtain ⟨m1, _⟩ := (reads_ok s k).1 _ _ _ hst hf hlt hq
            have hst2 := m1.st hst
            have hi2 := hst2.2.2.2 f2
            have := reps_loc (δ := δ) h _ _ _ _ _ (l.length + 2) f2 hi2 hq2 f3 (by omega)
            rw [hz2] at this
            injection this with this; injection this with h1 h3
            subst h1; subst h3
            obtain ⟨j1, j2, j3, j4, j5⟩ := reps3_ok s _ _ _ _ _ (fun _ => hi2) hq2
            have m3 : Mv s s2 s3 := ⟨j1, by have := hst2.2.2.1; have := hst2.2.1; omega, fun h => ⟨(j4 h).1, j3, (j4 h).2⟩⟩
            exact hP _ _ _ _ _ (m3.st hst2) f3 hr hf' hl hlf
  · rw [if_neg c] at hr hl
    injection hr with hr; injection hr with h1 h2
    injection hl with hl
    rw [← hl, ← h1, ← h2]
theorem LA_step (h : Emb s l p) {k : Nat} (hR : LR s l p δ k) : LA s l p δ (k + 1) := by
  intro σ t σ' r hst hf hi hr hf' hl hlf
  have hlen := h.len
  have ei : (sh p δ σ).i = p + σ.i := rfl
  have ef : (sh p δ σ).f = 0 := hf
  have ed : (sh p δ σ).d = σ.d + δ := rfl
  rw [atom3] at hr hl
  simp only [ei, h.at_ hi] at hr hl
  by_cases c40 : (byteAt s σ.i == 40) = true
  · rw [if_pos c40] at hr hl
    by_cases d1 : σ.d ≥ 100
    · rw [if_pos d1] at hr; injection hr with hr; injection hr with _ hr
      rw [← hr] at hf'; exact absurd hf' (fail_ne (by decide))
    rw [if_neg d1] at hr
    by_cases d2 : (sh p δ σ).d ≥ 100
    · rw [if_pos d2] at hl; injection hl with hl
      rw [← hl] at hlf; exact absurd hlf (fail_ne (by decide))
    rw [if_neg d2] at hl
    have hst1 : St3 s { i := σ.i + 1, f := σ.f, d := σ.d + 1 } := ⟨by have := hst.1; show 0 ≤ σ.d + 1; omega, by show σ.d + 1 ≤ 100; omega, by have := hst.2.2.1; have := hst.2.1; show ((σ.i + 1 : Nat) : Int) + (σ.d + 1) ≤ _; omega, fun _ => by show σ.i + 1 ≤ _; omega⟩
    have esh : ({ i := p + σ.i + 1, f := (sh p δ σ).f, d := (sh p δ σ).d + 1 } : S3) = sh p δ { i := σ.i + 1, f := σ.f, d := σ.d + 1 } := by
      unfold sh; simp only [Nat.add_assoc, S3.mk.injEq, true_and]; omega
    rw [esh] at hl
    cases hq : branches3 s k { i := σ.i + 1, f := σ.f, d := σ.d + 1 } with
    | none => rw [hq] at hr; cases hr
    | some q =>
      cases hz : branches3 l k (sh p δ { i := σ.i + 1, f := σ.f, d := σ.d + 1 }) with
      | none => rw [hz] at hl; cases hl
      | some z =>
        obtain ⟨e, s1⟩ := q
        obtain ⟨e2, z1⟩ := z
        rw [hq] at hr
        rw [hz] at hl
        simp only at hr hl
        have fin : ∀ (L : List UInt8) (x : S3), (if x.f == 0 && decide ((x.i : Int) ≥ (L.length : Int)) then ({ i := x.i, f := x.f, d := x.d - 1 } : S3).fail 1 else { i := x.i, f := x.f, d := x.d - 1 }).on.f = 0 → x.f = 0 ∧ x.i < L.length := by
          intro L x hx
          by_cases hc : (x.f == 0 && decide ((x.i : Int) ≥ (L.length : Int))) = true
          · rw [if_pos hc] at hx
            exact absurd hx (fail_ne (σ := { i := x.i, f := x.f, d := x.d - 1 }) (by decide))
          · rw [if_neg hc] at hx
            have hx : x.f = 0 := hx
            refine ⟨hx, ?_⟩
            rw [hx] at hc
            simp at hc
            omega
        injection hr with hr; injection hr with h1 h2
        injection hl with hl
        have f1 := fin s s1 (by rw [h2]; exact hf')
        have g1 := fin l z1 (by rw [← hl] at hlf; exact hlf)
        have := hR _ _ _ _ hst1 hf hq f1.1 hz g1.1
        injection this with h3 h4
        subst h3; subst h4
        have e1 : (sh p δ s1).i = p + s1.i := rfl
        rw [← hl, ← h1, ← h2]
        rw [show (s1.f == 0 && decide ((s1.i : Int) ≥ (s.length : Int))) = false by rw [decide_eq_false (by omega : ¬ (s1.i : Int) ≥ (s.length : Int))]; simp]
        rw [show ((sh p δ s1).f == 0 && decide (((sh p δ s1).i : Int) ≥ (l.length : Int))) = false by rw [decide_eq_false (by rw [e1]; omega : ¬ ((sh p δ s1).i : Int) ≥ (l.length : Int))]; simp]
        simp only [Bool.false_eq_true, if_false, S3.on, sh, Nat.add_assoc, Prod.mk.injEq, S3.mk.injEq, true_and]
        omega
  rw [if_neg c40] at hr hl
  by_cases c46 : (byteAt s σ.i == 46) = true
  · rw [if_pos c46] at hr hl
    injection hr with hr; injection hr with h1 h2; injection hl with hl
    rw [← hl, ← h1, ← h2, sh_on]
  rw [if_neg c46] at hr hl
  by_cases c94 : (byteAt s σ.i == 94) = true
  · rw [if_pos c94] at hr hl
    injection hr with hr; injection hr with h1 h2; injection hl with hl
    rw [← hl, ← h1, ← h2, sh_on]
  rw [if_neg c94] at hr hl
  by_cases c36 : (byteAt s σ.i == 36) = true
  · rw [if_pos c36] at hr hl
    injection hr with hr; injection hr with h1 h2; injection hl with hl
    rw [← hl, ← h1, ← h2, sh_on]
  rw [if_neg c36] at hr hl
  by_cases c91 : (byteAt s σ.i == 91) = true
  · rw [if_pos c91] at hr hl
    rw [brk_loc h hf hi hr hf'] at hl
    injection hl with hl; exact hl.symm
  rw [if_neg c91] at hr hl
  by_cases c92 : (byteAt s σ.i == 92) = true
  · rw [if_pos c92] at hr hl
    injection hr with hr; injection hr with h1 h2
    rw [esc_loc h hf hi (by rw [h2]; exact hf')] at hl
    injection hl with hl
    rw [← hl, ← h1, ← h2]
  rw [if_neg c92] at hr hl
  injection hr with hr; injection hr with h1 h2; injection hl with hl
  rw [← hl, ← h1, ← h2, sh_on]
theorem loc_all (h : Emb s l p) : ∀ k, LA s l p δ k ∧ LP s l p δ k ∧ LB s l p δ k ∧ LS s l p δ k ∧ LR s l p δ k
  | 0 => ⟨fun _ _ _ _ _ _ _ h => by simp [atom3] at h, fun _ _ _ _ _ _ _ h => by simp [piece3] at h, fun _ _ _ _ _ _ _ h => by simp [branch3] at h, fun _ _ _ _ _ _ h => by simp [pieces3] at h, fun _ _ _ _ _ _ h => by simp [branches3] at h⟩
  | k + 1 => by
    obtain ⟨hA, hP, hB, hS, hR⟩ := loc_all h k
    exact ⟨LA_step h hR, LP_step h hA hP, LB_step h hS hB, LS_step hP, LR_step hS hB⟩
end
end Go.Proofs.Ytddichibegppjaa
