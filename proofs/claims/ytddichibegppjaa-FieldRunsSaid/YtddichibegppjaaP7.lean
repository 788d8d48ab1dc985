/- Lists of trees in memory. -/
import Derived.Test.YtddichibegppjaaP4
import Derived.Test.YtddichibegppjaaVo
set_option linter.unusedSimpArgs false
set_option linter.unusedVariables false
namespace Go.Proofs.Ytddichibegppjaa
open Go Go.VC

section
variable {w w' : World} {D D' : Nat → Prop} {e : Re} {cs xs : List Value} {es : List Re}

theorem IsRe.form (h : IsRe w D e cs) : ∃ o s A m c lo hi, cs = [.string (B o), .string (B s), .slice A m c, .int .i64 lo, .int .i64 hi] := by
  cases e with
  | node op set kids lo hi =>
    simp only [IsRe] at h
    obtain ⟨A, c, h1, _⟩ := h
    exact ⟨_, _, _, _, _, _, _, h1⟩
theorem IsRe.len (h : IsRe w D e cs) : cs.length = 5 := by
  obtain ⟨o, s, A, m, c, lo, hi, rfl⟩ := h.form; rfl
theorem IsRe.one (h : IsRe w D e cs) : cs.all (·.oneCell') = true := by
  obtain ⟨o, s, A, m, c, lo, hi, rfl⟩ := h.form; rfl

/-- Trees, one behind the other. -/
def IsEl (w : World) (D : Nat → Prop) : List Re → List Value → Prop
  | [], xs => xs = []
  | k :: ks, xs => ∃ cs ys, xs = cs ++ ys ∧ IsRe w D k cs ∧ IsEl w D ks ys
theorem IsEl.keep (hd : ∀ b, D b → D' b) (hk : ∀ b, D b → ∀ i n vs, rdn w b i n = some vs → rdn w' b i n = some vs) : ∀ (es : List Re) (xs : List Value), IsEl w D es xs → IsEl w' D' es xs
  | [], _, h => h
  | k :: ks, xs, h => by
    obtain ⟨cs, ys, h1, h2, h3⟩ := h
    exact ⟨cs, ys, h1, IsRe.keep hd hk k cs h2, IsEl.keep hd hk ks ys h3⟩
theorem IsEl.Kp {S : Nat → Prop} (h : IsEl w D es xs) (hk : VC.Kp S w w') (hs : ∀ b, D b → ¬ S b) (hd : ∀ b, D b → D' b) : IsEl w' D' es xs :=
  IsEl.keep hd (fun b hb i n vs hr => rdn_kp hk (hs b hb) n i vs hr) es xs h
theorem IsEl.snoc : ∀ (es : List Re) (xs : List Value), IsEl w D es xs → IsRe w D e cs → IsEl w D (es ++ [e]) (xs ++ cs)
  | [], xs, h, h2 => by
    simp only [IsEl] at h; subst h
    exact ⟨cs, [], by simp, h2, rfl⟩
  | k :: ks, xs, h, h2 => by
    obtain ⟨ds, ys, rfl, h4, h5⟩ := h
    exact ⟨ds, ys ++ cs, by simp, h4, IsEl.snoc ks ys h5 h2⟩
theorem IsEl.len : ∀ (es : List Re) (xs : List Value), IsEl w D es xs → xs.length = es.length * 5
  | [], xs, h => by simp only [IsEl] at h; subst h; rfl
  | k :: ks, xs, h => by
    obtain ⟨ds, ys, rfl, h4, h5⟩ := h
    have := IsEl.len ks ys h5
    have := h4.len
    simp; omega
theorem IsEl.kids {b : Nat} : ∀ (ks : List Re) (o : Nat) (xs : List Value), IsEl w D ks xs → (∀ j, j < xs.length → VC.rdc w b (o + j) = xs[j]?) → IsKids w D b o ks
  | [], o, xs, _, _ => by simp only [IsKids]
  | k :: ks, o, xs, h, hr => by
    obtain ⟨ds, ys, rfl, h4, h5⟩ := h
    have hl := h4.len
    simp only [IsKids]
    refine ⟨⟨ds, rdn_of 5 o ds hl (fun j hj => ?_), h4⟩, IsEl.kids ks (o + 5) ys h5 fun j hj => ?_⟩
    · rw [hr j (by simp; omega), List.getElem?_append_left (by omega)]
    · have := hr (5 + j) (by simp; omega)
      rw [show o + 5 + j = o + (5 + j) by omega, this, List.getElem?_append_right (by omega)]
      congr 1; omega
theorem own_kids {A : Option Addr} {n cap t : Nat} (h : Own w t 5 A n cap xs) (he : IsEl w D es xs) (hd : ∀ b, D b → D' b) (hA : ∀ b, bk A = some b → D' b) (op set : List UInt8) (lo hi : Int) :
    IsRe w D' (.node op set es lo hi) [.string (B op), .string (B set), .slice A n cap, .int .i64 lo, .int .i64 hi] := by
  have hl := h.len
  have hl2 := IsEl.len es xs he
  have hn : n = es.length := by omega
  simp only [IsRe]
  refine ⟨A, cap, by rw [hn], ?_⟩
  rcases Nat.eq_zero_or_pos n with h0 | h0
  · exact .inl (List.eq_nil_of_length_eq_zero (by omega))
  · obtain ⟨g, rfl, hg, _⟩ := h.some h0
    exact .inr ⟨g, 0, rfl, hA g rfl, IsEl.kids es 0 xs (IsEl.keep hd (fun b _ i n vs hr => hr) es xs he) (fun j hj => by rw [Nat.zero_add]; exact h.rdc j (by omega))⟩
theorem IsRe.one_kid {m : Nat} (hb : Blk w m 33 cs) (h : IsRe w D e cs) (hd : ∀ b, D b → D' b) (hm : D' m) (c : Nat) (op set : List UInt8) (lo hi : Int) :
    IsRe w D' (.node op set [e] lo hi) [.string (B op), .string (B set), .slice (some ⟨m, 0, none⟩) 1 c, .int .i64 lo, .int .i64 hi] := by
  simp only [IsRe]
  refine ⟨some ⟨m, 0, none⟩, c, rfl, .inr ⟨m, 0, rfl, hm, ?_⟩⟩
  simp only [IsKids]
  have := hb.rdn
  rw [h.len] at this
  exact ⟨⟨cs, this, IsRe.keep hd (fun b _ i n vs hr => hr) e cs h⟩, trivial⟩
end

section
variable {w w1 w2 : World} {a : Nat} {l : List UInt8} {s s' : S3} {es : List Re} {A A' : Option Addr} {n n' cap cap' N N' : Nat}

abbrev zRe : List Value := [.string (B []), .string (B []), .slice none 0 0, .int .i64 0, .int .i64 0]
/-- A place in a text. -/
abbrev At3' (w : World) (a : Nat) (l : List UInt8) (s : S3) : Prop := Blk w a 82 [.string (B l), .int .i64 s.i, .int .i64 s.f, .int .i64 s.d]

/-- Where the reader of a list stands; what is in the list lies below N. -/
structure Ls (w : World) (a : Nat) (l : List UInt8) (s : S3) (es : List Re) (A : Option Addr) (n cap N : Nat) (w' : World) : Prop where
  at_ : At3' w' a l s
  r : Blk w' w.heap.size 33 zRe
  own : ∃ xs, Own w' 33 5 A n cap xs ∧ IsEl w' (fun b => w.heap.size < b ∧ b < N ∧ bk A ≠ some b) es xs
  n : n = es.length
  fresh : ∀ g, bk A = some g → w.heap.size < g ∧ g < N
  kp : VC.Kp (· = a) w w'
  lt : a < w.heap.size
  N1 : w.heap.size < N
  N2 : N ≤ w'.heap.size
theorem Ls.far {S : Nat → Prop} (h : Ls w a l s es A n cap N w1) (hk : Kp S w1 w2) (h2 : At3' w2 a l s') (hS : ∀ b, S b → b = a ∨ N ≤ b) : Ls w a l s' es A n cap N w2 := by
  obtain ⟨xs, ho, he⟩ := h.own
  have hlt := h.lt
  have hN := h.N1
  have hN2 := h.N2
  refine ⟨h2, hk.Blk h.r (fun e => by have := hS _ e; omega), ⟨xs, ho.Kp hk (fun g hg e => by have := h.fresh g hg; have := hS _ e; omega), he.Kp hk (fun b hb e => by have := hb.1; have := hb.2.1; have := hS _ e; omega) (fun b hb => hb)⟩, h.n, h.fresh,
    h.kp.trans' hk (fun i hi e => by have := hS _ e; omega), hlt, hN, Nat.le_trans hN2 hk.size⟩
theorem Ls.keep (h : Ls w a l s es A n cap N w1) (h2 : At3' w2 a l s') (hk : Kp (· = a) w1 w2) : Ls w a l s' es A n cap N w2 := h.far hk h2 (fun b e => .inl e)
theorem Ls.alloc (h : Ls w a l s es A n cap N w1) (o : Obj) : Ls w a l s es A n cap N (w1.alloc o) := h.keep (h.at_.alloc o) ((Kp.refl _ w1).alloc o)
theorem Ls.drew (h : Ls w a l s es A n cap N w1) : Ls w a l s es A n cap N w1.drew := h.keep h.at_.drew ((Kp.refl _ w1).drew)
theorem Ls.seta (h : Ls w a l s es A n cap N w1) {j : Nat} {v : Value} (h2 : At3' (w1.setCell ⟨a, j, none⟩ v) a l s') : Ls w a l s' es A n cap N (w1.setCell ⟨a, j, none⟩ v) :=
  h.keep h2 ((Kp.refl (· = a) w1).setCell (p := ⟨a, j, none⟩) (fun _ => rfl) _)
/-- A block of one's own is written. -/
theorem Ls.setq (h : Ls w a l s es A n cap N w1) {q : Nat} (hq : N ≤ q) (vs : List Value) : Ls w a l s es A n cap N (w1.setCells q 0 vs) := by
  have h1 := h.lt
  have h2 := h.N1
  exact h.far ((Kp.refl (· = q) w1).setCells (fun _ => rfl) vs 0) (Blk.farCells (by omega) _ _ _ h.at_) (fun b e => .inr (by omega))
/-- One more. -/
theorem Ls.append {e : Re} {cs : List Value} {o : Obj} {xs : List Value} (h : Ls w a l s es A n cap N w1) (ho : Own w1 33 5 A n cap xs) (hel : IsEl w1 (fun b => w.heap.size < b ∧ b < N ∧ bk A ≠ some b) es xs) (he : IsRe w1 (fun b => N ≤ b ∧ b < w1.heap.size) e cs)
    (h' : Own w2 33 5 A' (n + 1) cap' (xs ++ cs)) (hg : (w1.alloc o).grownBy w2 (bk A)) (hat : bk A' = bk A ∨ bk A' = some (w1.alloc o).heap.size) : Ls w a l s (es ++ [e]) A' (n + 1) cap' w2.heap.size w2 := by
  have h1 := h.lt
  have h2 := h.N1
  have h3 := h.N2
  have h4 := hg.size
  simp at h4
  have hsz : (w1.alloc o).heap.size = w1.heap.size + 1 := by simp
  have hA : ∀ b, b < N → bk A ≠ some b → bk A' ≠ some b := by
    intro b hb hne
    rcases hat with e | e <;> rw [e]
    · exact hne
    · rw [hsz]; intro e2; injection e2; omega
  have hk : Kp (fun b => bk A = some b) w1 w2 := ((Kp.refl (fun b => bk A = some b) w1).alloc o).grown hg (fun k hk _ => hk)
  have hAa : ∀ b, b ≤ w.heap.size → ¬ bk A = some b := fun b hb e => by have := h.fresh b e; omega
  refine ⟨hk.Blk h.at_ (hAa a (by omega)), hk.Blk h.r (hAa _ (Nat.le_refl _)), ⟨_, h', ?_⟩, by rw [h.n]; simp, ?_, h.kp.trans' hk (fun i hi e => absurd e (hAa i (by omega))), h1, by omega, Nat.le_refl _⟩
  · refine IsEl.snoc _ _ (hel.Kp hk (fun b hb => hb.2.2) (fun b hb => ⟨hb.1, by have := hb.2.1; omega, hA b hb.2.1 hb.2.2⟩)) (he.Kp hk (fun b hb e => by have := h.fresh b e; have := hb.1; omega) (fun b hb => ⟨by have := hb.1; omega, by have := hb.2; omega, ?_⟩))
    rcases hat with e | e <;> rw [e]
    · intro e2; have := h.fresh b e2; have := hb.1; omega
    · rw [hsz]; intro e2; injection e2; have := hb.2; omega
  · intro g hg'
    have hlt2 := h'.lt hg'
    rcases hat with e | e
    · rw [e] at hg'; exact ⟨(h.fresh g hg').1, hlt2⟩
    · rw [e, hsz] at hg'; injection hg' with hg'; omega
end
end Go.Proofs.Ytddichibegppjaa
