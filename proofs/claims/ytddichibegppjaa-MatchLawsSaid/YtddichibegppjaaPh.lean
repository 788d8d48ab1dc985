/- What is read of "(s)|(u)", "(s){2}", "(s)+", "(s)(s)*", "(s)(s)". -/
import Derived.Test.YtddichibegppjaaPg
set_option linter.unusedSimpArgs false
set_option linter.unusedVariables false
namespace Go.Proofs.Ytddichibegppjaa
open Go Go.VC

theorem pieces_of1 {l : List UInt8} {k : Nat} {σ : S3} {r : Re × S3} (h : pieces3 l (k + 1) σ = some r) (hf : r.2.f = 0) : ∃ es, piece3 l k [] σ = some (some es, r.2) ∧ r.1 = (match es with | [e] => e | es => .node opCat [] es 0 0) := by
  rw [pieces3] at h
  cases hq : piece3 l k [] σ with
  | none => rw [hq] at h; cases h
  | some q =>
    rw [hq] at h
    obtain ⟨o, s1⟩ := q
    match o, h with
    | none, h =>
      injection h with h
      rw [← h] at hf
      obtain ⟨es, he⟩ := piece_some hq hf
      cases he
    | some [], h => injection h with h; rw [← h]; exact ⟨[], rfl, rfl⟩
    | some [e], h => injection h with h; rw [← h]; exact ⟨[e], rfl, rfl⟩
    | some (a :: b :: t), h => injection h with h; rw [← h]; exact ⟨a :: b :: t, rfl, rfl⟩
def oneAlt (es : List Re) : Re := match es with | [e] => e | es => .node opAlt [] es 0 0
theorem branches_of1 {l : List UInt8} {k : Nat} {σ : S3} {r : Re × S3} (h : branches3 l (k + 1) σ = some r) (hf : r.2.f = 0) : ∃ e0 s0 es, pieces3 l k σ = some (e0, s0) ∧ s0.f = 0 ∧ branch3 l k [e0] s0 = some (es, r.2) ∧ r.1 = oneAlt es := by
  rw [branches3] at h
  cases hq : pieces3 l k σ with
  | none => rw [hq] at h; cases h
  | some q =>
    rw [hq] at h
    obtain ⟨e0, s0⟩ := q
    simp only at h
    cases hb : branch3 l k [e0] s0 with
    | none => rw [hb] at h; cases h
    | some b =>
      rw [hb] at h
      obtain ⟨es, s1⟩ := b
      have e1 : s1 = r.2 ∧ r.1 = oneAlt es := by
        clear hb
        rcases es with _ | ⟨a, _ | ⟨b, t⟩⟩ <;> (simp only at h; injection h with h; rw [← h]; exact ⟨rfl, rfl⟩)
      refine ⟨e0, s0, es, rfl, branch_no hb (by rw [e1.1]; exact hf), ?_, e1.2⟩
      rw [hb, e1.1]
theorem branch_stop {l : List UInt8} {k : Nat} {es : List Re} {σ : S3} {R : List Re × S3} (hf : σ.f = 0) (hi : l.length ≤ σ.i) (h : branch3 l k es σ = some R) : R = (es, σ) := by
  cases k with
  | zero => simp [branch3] at h
  | succ k =>
    rw [branch3, mr hf, decide_eq_false (by omega)] at h
    rw [if_neg (by simp)] at h
    injection h with h; exact h.symm
section
variable {s u l : List UInt8} {i k : Nat} {r : Re × S3}
/-- A branch that is a group, and what is behind it up to its end. -/
theorem pieces_one {E : Re} {τ0 : S3} (h : Emb s l (i + 1)) (hc : byteAt l i = 40) (hz : (parse3 s).2 = 0) (hk : 4 * s.length + 3 ≤ k) (hr : pieces3 l (k + 3) ⟨i, 0, 0⟩ = some r) (hf : r.2.f = 0)
    (hrep : ∀ e' τ, reps3 l (l.length + 2) (parse3 s).1 ⟨i + s.length + 2, 0, 0⟩ = some (e', τ) → e' = E ∧ τ = τ0) (hs : τ0.i < l.length → byteAt l τ0.i = 124) : r = (E, τ0) := by
  obtain ⟨es, hp, h1⟩ := pieces_of1 hr hf
  obtain ⟨e', τ, h2, h3, h4⟩ := piece_group h hc hz hk hp hf
  obtain ⟨rfl, rfl⟩ := hrep _ _ h2
  have := piece_stop h3 hs h4
  injection this with h5 h6
  injection h5 with h5
  subst h5
  exact Prod.ext h1 h6
theorem pieces_two {E1 E2 : Re} {τ2 : S3} (h : Emb s l (i + 1)) (h' : Emb s l (i + s.length + 3)) (hc : byteAt l i = 40) (hc' : byteAt l (i + s.length + 2) = 40) (hz : (parse3 s).2 = 0) (hk : 4 * s.length + 4 ≤ k) (hr : pieces3 l (k + 3) ⟨i, 0, 0⟩ = some r) (hf : r.2.f = 0)
    (hrep1 : ∀ e' τ, reps3 l (l.length + 2) (parse3 s).1 ⟨i + s.length + 2, 0, 0⟩ = some (e', τ) → e' = E1 ∧ τ = ⟨i + s.length + 2, 0, 0⟩)
    (hrep2 : ∀ e' τ, reps3 l (l.length + 2) (parse3 s).1 ⟨i + s.length + 2 + s.length + 2, 0, 0⟩ = some (e', τ) → e' = E2 ∧ τ = τ2) (hs : τ2.i < l.length → byteAt l τ2.i = 124) : r = (.node opCat [] [E1, E2] 0 0, τ2) := by
  obtain ⟨es, hp, h1⟩ := pieces_of1 hr hf
  obtain ⟨e', τ, h2, h3, h4⟩ := piece_group h hc hz (by omega) hp hf
  obtain ⟨rfl, rfl⟩ := hrep1 _ _ h2
  obtain ⟨k, rfl⟩ : ∃ k', k = k' + 1 := ⟨k - 1, by omega⟩
  obtain ⟨e2, τ', h5, h6, h7⟩ := piece_group (i := i + s.length + 2) h' hc' hz (by omega) h4 hf
  obtain ⟨rfl, rfl⟩ := hrep2 _ _ h5
  have := piece_stop h6 hs h7
  injection this with h8 h9
  injection h8 with h8
  subst h8
  exact Prod.ext h1 h9
theorem at_of {pre post : List UInt8} {c : UInt8} {n : Nat} (h : l = pre ++ c :: post) (hn : n = pre.length) : byteAt l n = c := by
  subst h; subst hn
  simp [byteAt, List.getD_eq_getElem?_getD]

def txAlt (s u : List UInt8) : List UInt8 := [40] ++ s ++ [41, 124, 40] ++ u ++ [41]
def txTwo (s : List UInt8) : List UInt8 := [40] ++ s ++ [41, 123, 50, 125]
def txPlus (s : List UInt8) : List UInt8 := [40] ++ s ++ [41, 43]
def txStar (s : List UInt8) : List UInt8 := [40] ++ s ++ [41, 40] ++ s ++ [41, 42]
def txPair (s : List UInt8) : List UInt8 := [40] ++ s ++ [41, 40] ++ s ++ [41]

theorem alt_read (hs : (parse3 s).2 = 0) (hu : (parse3 u).2 = 0) (hz : (parse3 (txAlt s u)).2 = 0) : (parse3 (txAlt s u)).1 = .node opAlt [] [(parse3 s).1, (parse3 u).1] 0 0 := by
  obtain ⟨S, hb, sf, si, sd⟩ := parse_start hz
  obtain ⟨l, hl⟩ : ∃ l, l = txAlt s u := ⟨_, rfl⟩
  rw [← hl] at hb si ⊢
  have hlen : l.length = s.length + u.length + 5 := by rw [hl]; simp [txAlt]; omega
  have m1 : Emb s l (0 + 1) := ⟨[40], [124, 40] ++ u ++ [41], by rw [hl]; simp [txAlt], rfl⟩
  have m2 : Emb u l (s.length + 3 + 1) := ⟨[40] ++ s ++ [41, 124, 40], [], by rw [hl]; simp [txAlt], by simp⟩
  have b0 : byteAt l 0 = 40 := at_of (pre := []) (post := s ++ [41, 124, 40] ++ u ++ [41]) (by rw [hl]; simp [txAlt]) rfl
  have b1 : byteAt l (s.length + 2) = 124 := at_of (pre := [40] ++ s ++ [41]) (post := [40] ++ u ++ [41]) (by rw [hl]; simp [txAlt]) (by simp)
  have b2 : byteAt l (s.length + 3) = 40 := at_of (pre := [40] ++ s ++ [41, 124]) (post := u ++ [41]) (by rw [hl]; simp [txAlt]) (by simp)
  obtain ⟨e0, s0, es, h1, h2, h3, h4⟩ := branches_of1 (k := 4 * l.length + 2) hb sf
  have e1 := pieces_one (k := 4 * l.length - 1) (r := (e0, s0)) (E := (parse3 s).1) (τ0 := ⟨s.length + 2, 0, 0⟩) m1 b0 hs (by omega) (by rw [show 4 * l.length - 1 + 3 = 4 * l.length + 2 by omega]; exact h1) h2
    (fun e' τ hr => by
      rw [show 0 + s.length + 2 = s.length + 2 by omega] at hr
      exact reps_stop rfl (no_rep (fun _ => by show byteAt l (s.length + 2) ≠ 42 ∧ _; rw [b1]; decide) rfl) hr) (fun _ => b1)
  injection e1 with e1 e2
  subst e1; subst e2
  rw [show 4 * l.length + 2 = 4 * l.length + 1 + 1 from rfl, branch3, mr rfl] at h3
  simp only [b1] at h3
  rw [if_pos (by rw [decide_eq_true (by omega : s.length + 2 < l.length)]; rfl)] at h3
  cases hq : pieces3 l (4 * l.length + 1) (S3.on ⟨s.length + 2, 0, 0⟩) with
  | none => rw [hq] at h3; cases h3
  | some q =>
    rw [hq] at h3
    obtain ⟨e1, s1⟩ := q
    simp only at h3
    have f1 : s1.f = 0 := branch_no h3 sf
    have e2 := pieces_one (i := s.length + 3) (k := 4 * l.length - 2) (r := (e1, s1)) (E := (parse3 u).1) (τ0 := ⟨l.length, 0, 0⟩) m2 b2 hu (by omega) (by rw [show 4 * l.length - 2 + 3 = 4 * l.length + 1 by omega]; exact hq) f1
      (fun e' τ hr => by
        rw [show s.length + 3 + u.length + 2 = l.length by omega] at hr
        exact reps_stop rfl (no_rep (fun h => absurd h (Nat.lt_irrefl _)) rfl) hr) (fun h => absurd h (Nat.lt_irrefl _))
    injection e2 with e2 e3
    subst e2; subst e3
    have := branch_stop rfl (Nat.le_refl _) h3
    injection this with h5 _
    rw [h4, h5]
    rfl
/-- One branch alone. -/
theorem whole_read {l : List UInt8} {E : Re} (hz : (parse3 l).2 = 0) (hp : ∀ r, pieces3 l (4 * l.length + 2) ⟨0, 0, 0⟩ = some r → r.2.f = 0 → r = (E, ⟨l.length, 0, 0⟩)) : (parse3 l).1 = E := by
  obtain ⟨S, hb, sf, si, sd⟩ := parse_start hz
  obtain ⟨e0, s0, es, h1, h2, h3, h4⟩ := branches_of1 (k := 4 * l.length + 2) hb sf
  have e1 := hp _ h1 h2
  injection e1 with e1 e2
  subst e1; subst e2
  have := branch_stop rfl (Nat.le_refl _) h3
  injection this with h5 _
  rw [h4, h5]
  rfl
theorem pair_read (hs : (parse3 s).2 = 0) (hz : (parse3 (txPair s)).2 = 0) : (parse3 (txPair s)).1 = .node opCat [] [(parse3 s).1, (parse3 s).1] 0 0 := by
  obtain ⟨l, hl⟩ : ∃ l, l = txPair s := ⟨_, rfl⟩
  rw [← hl] at hz ⊢
  have hlen : l.length = s.length + s.length + 4 := by rw [hl]; simp [txPair]; omega
  have m1 : Emb s l (0 + 1) := ⟨[40], [40] ++ s ++ [41], by rw [hl]; simp [txPair], rfl⟩
  have m2 : Emb s l (0 + s.length + 3) := ⟨[40] ++ s ++ [41, 40], [], by rw [hl]; simp [txPair], by simp⟩
  have b0 : byteAt l 0 = 40 := at_of (pre := []) (post := s ++ [41, 40] ++ s ++ [41]) (by rw [hl]; simp [txPair]) rfl
  have b1 : byteAt l (0 + s.length + 2) = 40 := at_of (pre := [40] ++ s ++ [41]) (post := s ++ [41]) (by rw [hl]; simp [txPair]) (by simp)
  refine whole_read hz fun r hr hf => ?_
  refine pieces_two (k := 4 * l.length - 1) m1 m2 b0 b1 hs (by omega) (by rw [show 4 * l.length - 1 + 3 = 4 * l.length + 2 by omega]; exact hr) hf
    (fun e' τ hr => reps_stop rfl (no_rep (fun _ => by show byteAt l (0 + s.length + 2) ≠ 42 ∧ _; rw [b1]; decide) rfl) hr)
    (fun e' τ hr => by
      rw [show 0 + s.length + 2 + s.length + 2 = l.length by omega] at hr
      exact reps_stop rfl (no_rep (fun h => absurd h (Nat.lt_irrefl _)) rfl) hr) (fun h => absurd h (Nat.lt_irrefl _))
theorem plus_read (hs : (parse3 s).2 = 0) (hz : (parse3 (txPlus s)).2 = 0) : (parse3 (txPlus s)).1 = .node opRep [] [(parse3 s).1] 1 (-1) := by
  obtain ⟨l, hl⟩ : ∃ l, l = txPlus s := ⟨_, rfl⟩
  rw [← hl] at hz ⊢
  have hlen : l.length = s.length + 3 := by rw [hl]; simp [txPlus]
  have m1 : Emb s l (0 + 1) := ⟨[40], [43], by rw [hl]; simp [txPlus], rfl⟩
  have b0 : byteAt l 0 = 40 := at_of (pre := []) (post := s ++ [41, 43]) (by rw [hl]; simp [txPlus]) rfl
  have b1 : byteAt l (0 + s.length + 2) = 43 := at_of (pre := [40] ++ s ++ [41]) (post := []) (by rw [hl]; simp [txPlus]) (by simp)
  refine whole_read hz fun r hr hf => ?_
  refine pieces_one (k := 4 * l.length - 1) m1 b0 hs (by omega) (by rw [show 4 * l.length - 1 + 3 = 4 * l.length + 2 by omega]; exact hr) hf
    (fun e' τ hr => ?_) (fun h => absurd h (Nat.lt_irrefl _))
  have hrep : repeat3 l ⟨0 + s.length + 2, 0, 0⟩ = ((1, -1, true), ⟨l.length, 0, 0⟩) := by
    unfold repeat3
    rw [mr rfl, decide_eq_true (by show 0 + s.length + 2 < l.length; omega)]
    simp only [b1]
    rw [show S3.on ⟨0 + s.length + 2, 0, 0⟩ = ⟨l.length, 0, 0⟩ by simp only [S3.on, S3.mk.injEq, and_true]; omega]
    rfl
  obtain ⟨k', h2⟩ := reps_go rfl hrep hr
  exact reps_stop rfl (no_rep (fun h => absurd h (Nat.lt_irrefl _)) rfl) h2
theorem star_read (hs : (parse3 s).2 = 0) (hz : (parse3 (txStar s)).2 = 0) : (parse3 (txStar s)).1 = .node opCat [] [(parse3 s).1, .node opRep [] [(parse3 s).1] 0 (-1)] 0 0 := by
  obtain ⟨l, hl⟩ : ∃ l, l = txStar s := ⟨_, rfl⟩
  rw [← hl] at hz ⊢
  have hlen : l.length = s.length + s.length + 5 := by rw [hl]; simp [txStar]; omega
  have m1 : Emb s l (0 + 1) := ⟨[40], [40] ++ s ++ [41, 42], by rw [hl]; simp [txStar], rfl⟩
  have m2 : Emb s l (0 + s.length + 3) := ⟨[40] ++ s ++ [41, 40], [42], by rw [hl]; simp [txStar], by simp⟩
  have b0 : byteAt l 0 = 40 := at_of (pre := []) (post := s ++ [41, 40] ++ s ++ [41, 42]) (by rw [hl]; simp [txStar]) rfl
  have b1 : byteAt l (0 + s.length + 2) = 40 := at_of (pre := [40] ++ s ++ [41]) (post := s ++ [41, 42]) (by rw [hl]; simp [txStar]) (by simp)
  have b2 : byteAt l (0 + s.length + 2 + s.length + 2) = 42 := at_of (pre := [40] ++ s ++ [41, 40] ++ s ++ [41]) (post := []) (by rw [hl]; simp [txStar]) (by simp; omega)
  refine whole_read hz fun r hr hf => ?_
  refine pieces_two (k := 4 * l.length - 1) m1 m2 b0 b1 hs (by omega) (by rw [show 4 * l.length - 1 + 3 = 4 * l.length + 2 by omega]; exact hr) hf
    (fun e' τ hr => reps_stop rfl (no_rep (fun _ => by show byteAt l (0 + s.length + 2) ≠ 42 ∧ _; rw [b1]; decide) rfl) hr)
    (fun e' τ hr => ?_) (fun h => absurd h (Nat.lt_irrefl _))
  have hrep : repeat3 l ⟨0 + s.length + 2 + s.length + 2, 0, 0⟩ = ((0, -1, true), ⟨l.length, 0, 0⟩) := by
    unfold repeat3
    rw [mr rfl, decide_eq_true (by show 0 + s.length + 2 + s.length + 2 < l.length; omega)]
    simp only [b2]
    rw [show S3.on ⟨0 + s.length + 2 + s.length + 2, 0, 0⟩ = ⟨l.length, 0, 0⟩ by simp only [S3.on, S3.mk.injEq, and_true]; omega]
    rfl
  obtain ⟨k', h2⟩ := reps_go rfl hrep hr
  exact reps_stop rfl (no_rep (fun h => absurd h (Nat.lt_irrefl _)) rfl) h2
theorem two_read (hs : (parse3 s).2 = 0) (hz : (parse3 (txTwo s)).2 = 0) : (parse3 (txTwo s)).1 = .node opRep [] [(parse3 s).1] 2 2 := by
  obtain ⟨l, hl⟩ : ∃ l, l = txTwo s := ⟨_, rfl⟩
  rw [← hl] at hz ⊢
  have hlen : l.length = s.length + 5 := by rw [hl]; simp [txTwo]
  have m1 : Emb s l (0 + 1) := ⟨[40], [123, 50, 125], by rw [hl]; simp [txTwo], rfl⟩
  have b0 : byteAt l 0 = 40 := at_of (pre := []) (post := s ++ [41, 123, 50, 125]) (by rw [hl]; simp [txTwo]) rfl
  have b1 : byteAt l (0 + s.length + 2) = 123 := at_of (pre := [40] ++ s ++ [41]) (post := [50, 125]) (by rw [hl]; simp [txTwo]) (by simp)
  have b2 : byteAt l (0 + s.length + 2 + 1) = 50 := at_of (pre := [40] ++ s ++ [41, 123]) (post := [125]) (by rw [hl]; simp [txTwo]) (by simp)
  have b3 : byteAt l (0 + s.length + 2 + 1 + 1) = 125 := at_of (pre := [40] ++ s ++ [41, 123, 50]) (post := []) (by rw [hl]; simp [txTwo]) (by simp)
  refine whole_read hz fun r hr hf => ?_
  refine pieces_one (k := 4 * l.length - 1) m1 b0 hs (by omega) (by rw [show 4 * l.length - 1 + 3 = 4 * l.length + 2 by omega]; exact hr) hf
    (fun e' τ hr => ?_) (fun h => absurd h (Nat.lt_irrefl _))
  have hnum : num3 l l.length (0 + s.length + 2 + 1) 0 false = ((2, true), 0 + s.length + 2 + 1 + 1) := by
    rw [show l.length = (s.length + 3) + 1 + 1 by omega]
    unfold num3
    rw [b2, decide_eq_true (by omega : 0 + s.length + 2 + 1 < l.length), if_pos (by rfl)]
    unfold num3
    rw [b3, if_neg (by rw [Bool.and_eq_true]; exact fun h => absurd h.2 (by decide))]
    rfl
  have hdig : digit3 l ⟨0 + s.length + 2 + 1, 0, 0⟩ = ((2, true), ⟨0 + s.length + 2 + 1 + 1, 0, 0⟩) := by unfold digit3; rw [hnum]
  have hrep : repeat3 l ⟨0 + s.length + 2, 0, 0⟩ = ((2, 2, true), ⟨l.length, 0, 0⟩) := by
    unfold repeat3
    rw [mr rfl, decide_eq_true (by show 0 + s.length + 2 < l.length; omega)]
    simp only [b1, nd, b2]
    rw [show S3.on ⟨0 + s.length + 2, 0, 0⟩ = ⟨0 + s.length + 2 + 1, 0, 0⟩ from rfl, hdig]
    simp only [nc, nb, b3]
    have hc : (decide (((0 + s.length + 2 + 1 + 1 : Nat) : Int) < (l.length : Int)) && (125 : UInt8) == 44) = false := by rw [Bool.and_eq_false_iff]; exact .inr rfl
    have d1 : decide (((0 + s.length + 2 : Nat) : Int) + 1 ≥ (l.length : Int)) = false := decide_eq_false (by omega)
    have d2 : decide (0 + s.length + 2 + 1 + 1 < l.length) = true := decide_eq_true (by omega)
    simp only [hc, d1, Bool.false_eq_true, if_false, b3, d2]
    rw [show S3.on ⟨0 + s.length + 2 + 1 + 1, 0, 0⟩ = ⟨l.length, 0, 0⟩ by simp only [S3.on, S3.mk.injEq, and_true]; omega]
    rfl
  obtain ⟨k', h2⟩ := reps_go rfl hrep hr
  exact reps_stop rfl (no_rep (fun h => absurd h (Nat.lt_irrefl _)) rfl) h2
end
end Go.Proofs.Ytddichibegppjaa
