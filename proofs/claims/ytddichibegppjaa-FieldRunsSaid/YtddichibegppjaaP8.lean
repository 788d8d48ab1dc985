/- Sizes of trees; the reference's Parse; kids in memory. -/
import Derived.Test.YtddichibegppjaaP6
import Derived.Test.YtddichibegppjaaP7
set_option linter.unusedSimpArgs false
set_option linter.unusedVariables false
namespace Go.Proofs.Ytddichibegppjaa
open Go Go.VC

mutual
theorem Re.ind {P : Re → Prop} (h : ∀ op set kids lo hi, (∀ k ∈ kids, P k) → P (.node op set kids lo hi)) : ∀ e, P e
  | .node op set kids lo hi => h op set kids lo hi (Re.inds h kids)
theorem Re.inds {P : Re → Prop} (h : ∀ op set kids lo hi, (∀ k ∈ kids, P k) → P (.node op set kids lo hi)) : ∀ ks : List Re, ∀ k ∈ ks, P k
  | [], k, hk => by cases hk
  | e :: es, k, hk => by
    exact (List.mem_cons.1 hk).elim (fun e' => e' ▸ Re.ind h e) (fun hk => Re.inds h es k hk)
end

mutual
def size3 : Re → Int
  | .node op _ kids lo hi =>
    if op = opSet then 1 else if op = opBol then 1 else if op = opEol then 1
    else if op = opAlt then min (sizes3 kids 0 + 1) 2001
    else if op = opRep then min (sizes3 kids 0 * (if hi < 0 then lo + 1 else max 1 hi) + 1) 2001
    else min (sizes3 kids 0) 2001
def sizes3 : List Re → Int → Int
  | [], n => n
  | k :: ks, n => sizes3 ks (min (n + size3 k) 2001)
end

theorem Goods_mem : ∀ {es : List Re} {e : Re}, Goods es → e ∈ es → Good e
  | k :: es, e, h, hm => by
    simp only [Goods] at h
    rcases List.mem_cons.1 hm with rfl | hm
    · exact h.1
    · exact Goods_mem h.2 hm
theorem Good.kids {op set : List UInt8} {kids : List Re} {lo hi : Int} (h : Good (.node op set kids lo hi)) : Goods kids := by
  simp only [Good] at h
  rcases h with ⟨_, h, _⟩ | ⟨_, h⟩ | ⟨_, h⟩ | ⟨_, h⟩ | ⟨_, _, h⟩ | ⟨_, _, h, _⟩
  · subst h; trivial
  · subst h; trivial
  · subst h; trivial
  all_goals exact h
theorem Good.bounds {op set : List UInt8} {kids : List Re} {lo hi : Int} (h : Good (.node op set kids lo hi)) : op = opRep → 0 ≤ lo ∧ lo ≤ 255 ∧ -1 ≤ hi ∧ hi ≤ 255 ∧ (hi < 0 ∨ lo ≤ hi) ∧ kids.length = 1 := by
  rintro rfl
  obtain ⟨n1, n2, n3, n4, n5, n6, n7, n8, n9, n10, n11, n12, n13, n14, n15⟩ := op_ne
  simp only [Good] at h
  rcases h with ⟨h, _⟩ | ⟨h, _⟩ | ⟨h, _⟩ | ⟨h, _⟩ | ⟨h, _⟩ | ⟨_, h0, _, h1, h2, h3, h4, h5⟩
  · exact absurd h.symm n5
  · exact absurd h.symm n9
  · exact absurd h.symm n12
  · exact absurd h.symm n14
  · exact absurd h.symm n15
  · exact ⟨h1, h2, h3, h4, h5, h0⟩

theorem Good.set {op set : List UInt8} {kids : List Re} {lo hi : Int} (h : Good (.node op set kids lo hi)) : op = opSet → set.length ≤ 256 := by
  rintro rfl
  obtain ⟨n1, n2, n3, n4, n5, n6, n7, n8, n9, n10, n11, n12, n13, n14, n15⟩ := op_ne
  simp only [Good] at h
  rcases h with ⟨_, _, h⟩ | ⟨h, _⟩ | ⟨h, _⟩ | ⟨h, _⟩ | ⟨h, _⟩ | ⟨h, _⟩
  · exact h
  all_goals (exfalso; revert h; assumption)

theorem sizes3_bound {ks : List Re} (hk : ∀ k ∈ ks, 0 ≤ size3 k ∧ size3 k ≤ 2001) : ∀ n, 0 ≤ n → n ≤ 2001 → 0 ≤ sizes3 ks n ∧ sizes3 ks n ≤ 2001 := by
  induction ks with
  | nil => intro n h1 h2; simp only [sizes3]; exact ⟨h1, h2⟩
  | cons k ks ih =>
    intro n h1 h2
    simp only [sizes3]
    have := hk k (by simp)
    exact ih (fun k h => hk k (by simp [h])) _ (by omega) (by omega)
theorem size3_bound : ∀ e, Good e → 0 ≤ size3 e ∧ size3 e ≤ 2001 := by
  refine Re.ind fun op set kids lo hi ih hg => ?_
  have hb := hg.bounds
  have h1 := sizes3_bound (ks := kids) (fun k hk => ih k hk (Goods_mem hg.kids hk)) 0 (by omega) (by omega)
  simp only [size3]
  repeat' split
  all_goals try omega
  · rename_i h2 _
    have := hb h2
    have : 0 ≤ sizes3 kids 0 * (lo + 1) := Int.mul_nonneg h1.1 (by omega)
    omega
  · rename_i h2 _
    have := hb h2
    have : 0 ≤ sizes3 kids 0 * max 1 hi := Int.mul_nonneg h1.1 (by omega)
    omega
/-- Up to a kid. -/
theorem sizes3_snoc (ks : List Re) (k : Re) : ∀ n, sizes3 (ks ++ [k]) n = min (sizes3 ks n + size3 k) 2001 := by
  induction ks with
  | nil => intro n; simp [sizes3]
  | cons e ks ih => intro n; simp only [List.cons_append, sizes3]; exact ih _

/-- The reference's Parse. -/
def parse3 (l : List UInt8) : Re × Int :=
  match branches3 l (4 * l.length + 3) ⟨0, 0, 0⟩ with
  | none => (Re.zero, 1)
  | some (e, s) => if s.f ≠ 0 then (Re.zero, s.f) else if s.i < l.length then (Re.zero, 1) else if size3 e > 2000 then (Re.zero, 5) else (e, 0)

section
variable {w : World} {D : Nat → Prop}
theorem IsKids.get {b : Nat} : ∀ {ks : List Re} {o : Nat}, IsKids w D b o ks → ∀ {j : Nat} {k : Re}, ks[j]? = some k → ∃ cs, rdn w b (o + j * 5) 5 = some cs ∧ IsRe w D k cs
  | [], o, _, j, k, hj => by simp at hj
  | e :: es, o, h, j, k, hj => by
    simp only [IsKids] at h
    cases j with
    | zero => simp at hj; subst hj; simpa using h.1
    | succ j =>
      obtain ⟨cs, h1, h2⟩ := IsKids.get h.2 (j := j) (k := k) (by simpa using hj)
      exact ⟨cs, by rw [show o + (j + 1) * 5 = o + 5 + j * 5 by omega]; exact h1, h2⟩
theorem rdn_five {b x : Nat} {v0 v1 v2 v3 v4 : Value} (h : rdn w b x 5 = some [v0, v1, v2, v3, v4]) : VC.rdc w b x = some v0 ∧ VC.rdc w b (x + 1) = some v1 ∧ VC.rdc w b (x + 1 + 1) = some v2 ∧ VC.rdc w b (x + 1 + 1 + 1) = some v3 ∧ VC.rdc w b (x + 1 + 1 + 1 + 1) = some v4 := by
  obtain ⟨_, hc⟩ := rdn_at h
  exact ⟨by simpa using hc 0 v0 rfl, by simpa using hc 1 v1 rfl, by simpa using hc 2 v2 rfl, by simpa using hc 3 v3 rfl, by simpa using hc 4 v4 rfl⟩
/-- A kid's cells, read in a world that has changed elsewhere. -/
theorem IsRe.kid {w' : World} {op set : List UInt8} {kids : List Re} {lo hi : Int} {A : Option Addr} {m c : Nat} {v0 v1 v3 v4 : Value} (h : IsRe w D (.node op set kids lo hi) [v0, v1, .slice A m c, v3, v4]) (hk : VC.Kp (fun _ => False) w w') {j : Nat} {k : Re} (hj : kids[j]? = some k) :
    ∃ b o c0 c1 A1 m1 c2 lo1 hi1, A = some ⟨b, o, none⟩ ∧ b < w'.heap.size ∧ D b ∧ VC.rdc w' b (o + j * 5) = some (.string (B c0)) ∧ VC.rdc w' b (o + j * 5 + 1) = some (.string (B c1)) ∧ VC.rdc w' b (o + j * 5 + 1 + 1) = some (.slice A1 m1 c2) ∧ VC.rdc w' b (o + j * 5 + 1 + 1 + 1) = some (.int .i64 lo1) ∧
      VC.rdc w' b (o + j * 5 + 1 + 1 + 1 + 1) = some (.int .i64 hi1) ∧ IsRe w' D k [.string (B c0), .string (B c1), .slice A1 m1 c2, .int .i64 lo1, .int .i64 hi1] ∧ IsRe w D k [.string (B c0), .string (B c1), .slice A1 m1 c2, .int .i64 lo1, .int .i64 hi1] := by
  simp only [IsRe] at h
  obtain ⟨A', c', h1, h2⟩ := h
  have hA : A = A' := by injection h1 with _ h1; injection h1 with _ h1; injection h1 with h1 _; injection h1
  subst hA
  rcases h2 with h2 | ⟨b, o, rfl, hd, h3⟩
  · subst h2; simp at hj
  · obtain ⟨cs, h4, h5⟩ := h3.get hj
    obtain ⟨c0, c1, A1, m1, c2, lo1, hi1, rfl⟩ := h5.form
    obtain ⟨r0, r1, r2, r3, r4⟩ := rdn_five h4
    have hb := rdc_lt r0
    obtain ⟨q0, q1, q2, q3, q4⟩ := rdn_five (rdn_kp hk id _ _ _ h4)
    exact ⟨b, o, c0, c1, A1, m1, c2, lo1, hi1, rfl, Nat.lt_of_lt_of_le hb hk.size, hd, q0, q1, q2, q3, q4, h5.Kp hk (fun _ _ => id) (fun _ h => h), h5⟩
theorem IsRe.cells {op set : List UInt8} {kids : List Re} {lo hi : Int} {cs : List Value} (h : IsRe w D (.node op set kids lo hi) cs) : ∃ A c, cs = [.string (B op), .string (B set), .slice A kids.length c, .int .i64 lo, .int .i64 hi] := by
  simp only [IsRe] at h
  obtain ⟨A, c, h1, _⟩ := h
  exact ⟨A, c, h1⟩
end
end Go.Proofs.Ytddichibegppjaa
