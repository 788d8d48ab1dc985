/- The machine of a tree, as a list of steps; what it accepts. Plain. -/
import Derived.Test.YtddichibegppjaaP9
set_option linter.unusedSimpArgs false
set_option linter.unusedVariables false
namespace Go.Proofs.Ytddichibegppjaa
open Go Go.VC

/-- A step: 0 eats a byte of a set, 1 forks, 2 the text's beginning, 3 its end, 4 is done. -/
structure St4 where
  kind : Int
  set : List Bool
  a : Nat
  b : Nat

def bits (set : List UInt8) : List Bool := (List.range 256).map fun c => set.contains (UInt8.ofNat c)

abbrev Mk4 := Nat → List St4 → List St4 × Nat
def star4 (f : Mk4) (next : Nat) (ms : List St4) : List St4 × Nat :=
  ((f ms.length (ms ++ [⟨1, [], 0, next⟩])).1.set ms.length ⟨1, [], (f ms.length (ms ++ [⟨1, [], 0, next⟩])).2, next⟩, ms.length)
def opt4 (f : Mk4) : Nat → Nat → Nat → List St4 → List St4 × Nat
  | 0, _, at_, ms => (ms, at_)
  | n + 1, next, at_, ms => opt4 f n next (f at_ ms).1.length ((f at_ ms).1 ++ [⟨1, [], (f at_ ms).2, next⟩])
def its4 (f : Mk4) : Nat → Nat → List St4 → List St4 × Nat
  | 0, at_, ms => (ms, at_)
  | n + 1, at_, ms => its4 f n (f at_ ms).2 (f at_ ms).1

mutual
def tree4 : Re → Nat → List St4 → List St4 × Nat
  | .node op set kids lo hi, next, ms =>
    if op = opBol then (ms ++ [⟨2, [], next, 0⟩], ms.length)
    else if op = opEol then (ms ++ [⟨3, [], next, 0⟩], ms.length)
    else if op = opCat then cat4 kids next ms
    else if op = opAlt then alt4 kids next ms
    else if op = opRep then rep4 kids lo hi next ms
    else (ms ++ [⟨0, bits set, next, 0⟩], ms.length)
def cat4 : List Re → Nat → List St4 → List St4 × Nat
  | [], next, ms => (ms, next)
  | k :: ks, next, ms => tree4 k (cat4 ks next ms).2 (cat4 ks next ms).1
def alt4 : List Re → Nat → List St4 → List St4 × Nat
  | [], next, ms => (ms, next)
  | [k], next, ms => tree4 k next ms
  | k :: k2 :: ks, next, ms =>
    ((tree4 k next (alt4 (k2 :: ks) next ms).1).1 ++ [⟨1, [], (tree4 k next (alt4 (k2 :: ks) next ms).1).2, (alt4 (k2 :: ks) next ms).2⟩], (tree4 k next (alt4 (k2 :: ks) next ms).1).1.length)
def rep4 : List Re → Int → Int → Nat → List St4 → List St4 × Nat
  | [], _, _, next, ms => (ms, next)
  | k :: _, lo, hi, next, ms =>
    let r := if hi < 0 then star4 (tree4 k) next ms else opt4 (tree4 k) (hi - lo).toNat next next ms
    its4 (tree4 k) lo.toNat r.2 r.1
end

mutual
/-- How many steps. -/
def nst : Re → Nat
  | .node op _ kids lo hi =>
    if op = opBol then 1 else if op = opEol then 1 else if op = opCat then nsts kids else if op = opAlt then nsts kids + (kids.length - 1)
    else if op = opRep then nrep kids lo hi else 1
def nsts : List Re → Nat
  | [] => 0
  | k :: ks => nst k + nsts ks
def nrep : List Re → Int → Int → Nat
  | [], _, _ => 0
  | k :: _, lo, hi => (if hi < 0 then nst k + 1 else (hi - lo).toNat * (nst k + 1)) + lo.toNat * nst k
end

/-- A way to the end: from a step at a place, to a place, so many moves. -/
inductive Acc (M : List St4) (l : List UInt8) : Nat → Nat → Nat → Nat → Prop
  | done {k i : Nat} {st : St4} : M[k]? = some st → st.kind = 4 → Acc M l k i i 0
  | eat {k i f n : Nat} {st : St4} : M[k]? = some st → st.kind = 0 → i < l.length → st.set.getD (byteAt l i).toNat false = true → Acc M l st.a (i + 1) f n → Acc M l k i f (n + 1)
  | forkA {k i f n : Nat} {st : St4} : M[k]? = some st → st.kind = 1 → Acc M l st.a i f n → Acc M l k i f (n + 1)
  | forkB {k i f n : Nat} {st : St4} : M[k]? = some st → st.kind = 1 → Acc M l st.b i f n → Acc M l k i f (n + 1)
  | first {k i f n : Nat} {st : St4} : M[k]? = some st → st.kind = 2 → i = 0 → Acc M l st.a i f n → Acc M l k i f (n + 1)
  | last {k i f n : Nat} {st : St4} : M[k]? = some st → st.kind = 3 → i = l.length → Acc M l st.a i f n → Acc M l k i f (n + 1)

/-- From one step to another one it matches just what a relation says. -/
def Sem (M : List St4) (l : List UInt8) (R : Nat → Nat → Prop) (s next : Nat) : Prop :=
  (∀ i f n, Acc M l s i f n → ∃ j m, m ≤ n ∧ R i j ∧ Acc M l next j f m) ∧ ∀ i j f m, R i j → Acc M l next j f m → ∃ n, Acc M l s i f n

section
variable {M : List St4} {l : List UInt8} {R S : Nat → Nat → Prop} {s t next : Nat}

theorem Sem.id : Sem M l (· = ·) next next := ⟨fun i f n h => ⟨i, n, Nat.le_refl _, rfl, h⟩, fun i j f m h h2 => ⟨m, h ▸ h2⟩⟩
theorem Sem.comp (h : Sem M l R s t) (k : Sem M l S t next) : Sem M l (fun i j => ∃ m, R i m ∧ S m j) s next := by
  refine ⟨fun i f n ha => ?_, fun i j f m ⟨q, h1, h2⟩ ha => ?_⟩
  · obtain ⟨j, m, h1, h2, h3⟩ := h.1 i f n ha
    obtain ⟨j', m', h4, h5, h6⟩ := k.1 j f m h3
    exact ⟨j', m', by omega, ⟨j, h2, h5⟩, h6⟩
  · obtain ⟨n, h3⟩ := k.2 q j f m h2 ha
    exact h.2 i q f n h1 h3
theorem Sem.congr (h : Sem M l R s next) (hr : ∀ i j, R i j ↔ S i j) : Sem M l S s next :=
  ⟨fun i f n ha => by obtain ⟨j, m, h1, h2, h3⟩ := h.1 i f n ha; exact ⟨j, m, h1, (hr i j).1 h2, h3⟩, fun i j f m hs ha => h.2 i j f m ((hr i j).2 hs) ha⟩
/-- A fork. -/
theorem Sem.fork {st : St4} (hM : M[s]? = some st) (hk : st.kind = 1) (ha : Sem M l R st.a next) (hb : Sem M l S st.b next) : Sem M l (fun i j => R i j ∨ S i j) s next := by
  refine ⟨fun i f n h => ?_, fun i j f m h h2 => ?_⟩
  · cases h with
    | done h1 h2 => rw [hM] at h1; injection h1 with h1; subst h1; omega
    | eat h1 h2 => rw [hM] at h1; injection h1 with h1; subst h1; omega
    | forkA h1 h2 h3 =>
      rw [hM] at h1; injection h1 with h1; subst h1
      obtain ⟨j, m, h4, h5, h6⟩ := ha.1 _ _ _ h3
      exact ⟨j, m, by omega, .inl h5, h6⟩
    | forkB h1 h2 h3 =>
      rw [hM] at h1; injection h1 with h1; subst h1
      obtain ⟨j, m, h4, h5, h6⟩ := hb.1 _ _ _ h3
      exact ⟨j, m, by omega, .inr h5, h6⟩
    | first h1 h2 => rw [hM] at h1; injection h1 with h1; subst h1; omega
    | last h1 h2 => rw [hM] at h1; injection h1 with h1; subst h1; omega
  · rcases h with h | h
    · obtain ⟨n, h3⟩ := ha.2 i j f m h h2; exact ⟨n + 1, .forkA hM hk h3⟩
    · obtain ⟨n, h3⟩ := hb.2 i j f m h h2; exact ⟨n + 1, .forkB hM hk h3⟩
/-- A loop. -/
theorem Sem.star {st : St4} (hM : M[s]? = some st) (hk : st.kind = 1) (ha : Sem M l R st.a s) (hb : st.b = next) : Sem M l (fun i j => ∃ q, It R q i j) s next := by
  refine ⟨fun i f n h => ?_, fun i j f m hq h2 => ?_⟩
  · induction n using Nat.strongRecOn generalizing i with
    | _ n ih =>
      cases h with
      | done h1 h2 => rw [hM] at h1; injection h1 with h1; subst h1; omega
      | eat h1 h2 => rw [hM] at h1; injection h1 with h1; subst h1; omega
      | forkA h1 h2 h3 =>
        rw [hM] at h1; injection h1 with h1; subst h1
        obtain ⟨j, m, h4, h5, h6⟩ := ha.1 _ _ _ h3
        obtain ⟨j', m', h7, ⟨q, h8⟩, h9⟩ := ih m (by omega) j h6
        exact ⟨j', m', by omega, ⟨q + 1, j, h5, h8⟩, h9⟩
      | forkB h1 h2 h3 =>
        rw [hM] at h1; injection h1 with h1; subst h1
        rw [hb] at h3
        exact ⟨i, _, Nat.le_succ _, ⟨0, rfl⟩, h3⟩
      | first h1 h2 => rw [hM] at h1; injection h1 with h1; subst h1; omega
      | last h1 h2 => rw [hM] at h1; injection h1 with h1; subst h1; omega
  · have key : ∀ (q i : Nat), It R q i j → ∃ n, Acc M l s i f n := by
      intro q
      induction q with
      | zero => intro i h; simp only [It] at h; subst h; exact ⟨m + 1, .forkB hM hk (hb ▸ h2)⟩
      | succ q ih =>
        rintro i ⟨k, h3, h4⟩
        obtain ⟨n, h5⟩ := ih k h4
        obtain ⟨n', h6⟩ := ha.2 i k f n h3 h5
        exact ⟨n' + 1, .forkA hM hk h6⟩
    obtain ⟨q, h⟩ := hq
    exact key q i h
theorem Sem.set {st : St4} {set : List UInt8} (hM : M[s]? = some st) (hk : st.kind = 0) (hs : st.set = bits set) (ha : st.a = next) : Sem M l (fun i j => i < l.length ∧ byteAt l i ∈ set ∧ j = i + 1) s next := by
  have hb : ∀ c : UInt8, (bits set).getD c.toNat false = true ↔ c ∈ set := by
    intro c
    have := c.toNat_lt
    simp only [bits, List.getD_eq_getElem?_getD, List.getElem?_map, List.getElem?_range (show c.toNat < 256 by omega), Option.map_some, Option.getD_some]
    simp
  refine ⟨fun i f n h => ?_, fun i j f m h h2 => ?_⟩
  · cases h with
    | done h1 h2 => rw [hM] at h1; injection h1 with h1; subst h1; omega
    | eat h1 h2 h3 h4 h5 =>
      rw [hM] at h1; injection h1 with h1; subst h1
      exact ⟨i + 1, _, Nat.le_succ _, ⟨h3, (hb _).1 (hs ▸ h4), rfl⟩, ha ▸ h5⟩
    | forkA h1 h2 => rw [hM] at h1; injection h1 with h1; subst h1; omega
    | forkB h1 h2 => rw [hM] at h1; injection h1 with h1; subst h1; omega
    | first h1 h2 => rw [hM] at h1; injection h1 with h1; subst h1; omega
    | last h1 h2 => rw [hM] at h1; injection h1 with h1; subst h1; omega
  · obtain ⟨h3, h4, rfl⟩ := h
    exact ⟨m + 1, .eat hM hk h3 (by rw [hs]; exact (hb _).2 h4) (ha ▸ h2)⟩
theorem Sem.bol {st : St4} (hM : M[s]? = some st) (hk : st.kind = 2) (ha : st.a = next) : Sem M l (fun i j => i = 0 ∧ j = 0) s next := by
  refine ⟨fun i f n h => ?_, fun i j f m h h2 => ?_⟩
  · cases h with
    | done h1 h2 => rw [hM] at h1; injection h1 with h1; subst h1; omega
    | eat h1 h2 => rw [hM] at h1; injection h1 with h1; subst h1; omega
    | forkA h1 h2 => rw [hM] at h1; injection h1 with h1; subst h1; omega
    | forkB h1 h2 => rw [hM] at h1; injection h1 with h1; subst h1; omega
    | first h1 h2 h3 h4 => rw [hM] at h1; injection h1 with h1; subst h1; exact ⟨i, _, Nat.le_succ _, ⟨h3, h3⟩, ha ▸ h4⟩
    | last h1 h2 => rw [hM] at h1; injection h1 with h1; subst h1; omega
  · obtain ⟨rfl, rfl⟩ := h
    exact ⟨m + 1, .first hM hk rfl (ha ▸ h2)⟩
theorem Sem.eol {st : St4} (hM : M[s]? = some st) (hk : st.kind = 3) (ha : st.a = next) : Sem M l (fun i j => i = l.length ∧ j = l.length) s next := by
  refine ⟨fun i f n h => ?_, fun i j f m h h2 => ?_⟩
  · cases h with
    | done h1 h2 => rw [hM] at h1; injection h1 with h1; subst h1; omega
    | eat h1 h2 => rw [hM] at h1; injection h1 with h1; subst h1; omega
    | forkA h1 h2 => rw [hM] at h1; injection h1 with h1; subst h1; omega
    | forkB h1 h2 => rw [hM] at h1; injection h1 with h1; subst h1; omega
    | first h1 h2 => rw [hM] at h1; injection h1 with h1; subst h1; omega
    | last h1 h2 h3 h4 => rw [hM] at h1; injection h1 with h1; subst h1; exact ⟨i, _, Nat.le_succ _, ⟨h3, h3⟩, ha ▸ h4⟩
  · obtain ⟨rfl, rfl⟩ := h
    exact ⟨m + 1, .last hM hk rfl (ha ▸ h2)⟩
end

/-- A machine's steps stand among others from a place on. -/
def Ag (M ms : List St4) (base : Nat) : Prop := ∀ i, base ≤ i → i < ms.length → M[i]? = ms[i]?
/-- Where steps lead lies among them. -/
def Ws (ms : List St4) : Prop := ∀ (i : Nat) (st : St4), ms[i]? = some st → st.a < ms.length ∧ st.b < ms.length
theorem Ws.snoc {ms : List St4} {st : St4} (h : Ws ms) (h1 : st.a < ms.length + 1) (h2 : st.b < ms.length + 1) : Ws (ms ++ [st]) := by
  intro i st' hi
  rw [List.getElem?_append] at hi
  split at hi
  · have := h i st' hi; simp; omega
  · rename_i hge
    rcases Nat.lt_or_ge (i - ms.length) 1 with h3 | h3
    · rw [show i - ms.length = 0 by omega] at hi
      simp at hi; subst hi; simp; omega
    · rw [List.getElem?_eq_none (by simpa using h3)] at hi; cases hi

/-- What a maker does. -/
structure Builds (l : List UInt8) (f : Mk4) (R : Nat → Nat → Prop) (N : Nat) (next : Nat) (ms : List St4) : Prop where
  len : (f next ms).1.length = ms.length + N
  pre : ∀ i, i < ms.length → (f next ms).1[i]? = ms[i]?
  ws : Ws (f next ms).1
  lt : (f next ms).2 < (f next ms).1.length
  sem : ∀ M, Ag M (f next ms).1 ms.length → Sem M l R (f next ms).2 next
def BuildsAll (l : List UInt8) (f : Mk4) (R : Nat → Nat → Prop) (N : Nat) : Prop := ∀ next ms, next < ms.length → Ws ms → Builds l f R N next ms

section
variable {l : List UInt8} {f : Mk4} {R P : Nat → Nat → Prop} {N : Nat}

theorem put_builds {next : Nat} {ms : List St4} (hn : next < ms.length) (hw : Ws ms) (st : St4) (ha : st.a = next) (hb : st.b = 0) (hs : ∀ M, M[ms.length]? = some st → Sem M l R ms.length next) :
    Builds l (fun next ms => (ms ++ [st], ms.length)) R 1 next ms :=
  ⟨by simp, fun i hi => List.getElem?_append_left hi, hw.snoc (by omega) (by omega), by simp, fun M hM => hs M (by rw [hM ms.length (Nat.le_refl _) (by simp)]; simp)⟩

theorem star_builds (h : BuildsAll l f R N) {next : Nat} {ms : List St4} (hn : next < ms.length) (hw : Ws ms) : Builds l (star4 f) (fun i j => ∃ q, It R q i j) (N + 1) next ms := by
  have hw1 : Ws (ms ++ [⟨1, [], 0, next⟩]) := hw.snoc (by show 0 < _; omega) (by show next < _; omega)
  have hl1 : (ms ++ [(⟨1, [], 0, next⟩ : St4)]).length = ms.length + 1 := by simp
  have hb := h ms.length (ms ++ [⟨1, [], 0, next⟩]) (by omega) hw1
  generalize hr : f ms.length (ms ++ [⟨1, [], 0, next⟩]) = r at *
  have e1 : star4 f next ms = (r.1.set ms.length ⟨1, [], r.2, next⟩, ms.length) := by unfold star4; rw [hr]
  have b1 := hb.len
  have b2 := hb.pre
  have b3 := hb.ws
  have b4 := hb.lt
  have b5 := hb.sem
  rw [hr] at b1 b2 b3 b4 b5
  rw [hl1] at b1 b2 b5
  refine ⟨?_, fun i hi => ?_, ?_, ?_, fun M hM => ?_⟩
  · rw [e1]; simp; omega
  · rw [e1]
    show (r.1.set _ _)[i]? = _
    rw [List.getElem?_set, if_neg (by omega), b2 i (by omega), List.getElem?_append_left hi]
  · rw [e1]
    intro i st hi
    change (r.1.set _ _)[i]? = _ at hi
    show st.a < (r.1.set _ _).length ∧ _ < (r.1.set _ _).length
    rw [List.length_set]
    rw [List.getElem?_set] at hi
    split at hi
    · split at hi
      · injection hi with hi; subst hi; exact ⟨b4, by show next < _; omega⟩
      · cases hi
    · exact b3 i st hi
  · rw [e1]; show ms.length < (r.1.set _ _).length; rw [List.length_set]; omega
  · rw [e1] at hM ⊢
    have hM1 : M[ms.length]? = some ⟨1, [], r.2, next⟩ := by
      rw [hM ms.length (Nat.le_refl _) (by show _ < (r.1.set _ _).length; rw [List.length_set]; omega)]
      show (r.1.set _ _)[ms.length]? = _
      rw [List.getElem?_set, if_pos rfl, if_pos (by omega)]
    refine Sem.star hM1 rfl (b5 M fun i h1 h2 => ?_) rfl
    rw [hM i (by omega) (by show _ < (r.1.set _ _).length; rw [List.length_set]; exact h2)]
    show (r.1.set _ _)[i]? = _
    rw [List.getElem?_set, if_neg (by omega)]

/-- Up to so many steps of a relation. -/
def Up (R : Nat → Nat → Prop) (q i j : Nat) : Prop := ∃ m, m ≤ q ∧ It R m i j

theorem opt_builds (h : BuildsAll l f R N) {next base : Nat} : ∀ (n q0 at_ : Nat) (ms : List St4), at_ < ms.length → next < ms.length → base ≤ ms.length → Ws ms → (∀ M, Ag M ms base → Sem M l (Up R q0) at_ next) →
    (opt4 f n next at_ ms).1.length = ms.length + n * (N + 1) ∧ (∀ i, i < ms.length → (opt4 f n next at_ ms).1[i]? = ms[i]?) ∧ Ws (opt4 f n next at_ ms).1 ∧ (opt4 f n next at_ ms).2 < (opt4 f n next at_ ms).1.length ∧
      ∀ M, Ag M (opt4 f n next at_ ms).1 base → Sem M l (Up R (q0 + n)) (opt4 f n next at_ ms).2 next
  | 0, q0, at_, ms, h1, h2, h3, h4, h5 => ⟨by simp [opt4], fun i hi => rfl, h4, h1, h5⟩
  | n + 1, q0, at_, ms, h1, h2, h3, h4, h5 => by
    obtain ⟨b1, b2, b3, b4, b5⟩ := h at_ ms h1 h4
    simp only [opt4]
    generalize f at_ ms = r at *
    have hw : Ws (r.1 ++ [⟨1, [], r.2, next⟩]) := b3.snoc (by show r.2 < _; omega) (by show next < _; omega)
    have hl : (r.1 ++ [(⟨1, [], r.2, next⟩ : St4)]).length = r.1.length + 1 := by simp
    obtain ⟨c1, c2, c3, c4, c5⟩ := opt_builds h (next := next) (base := base) n (q0 + 1) r.1.length (r.1 ++ [⟨1, [], r.2, next⟩]) (by omega) (by omega) (by omega) hw (fun M hM => by
      have hM1 : M[r.1.length]? = some ⟨1, [], r.2, next⟩ := by rw [hM _ (by omega) (by omega)]; simp
      have hM2 : Ag M r.1 base := fun i h6 h7 => by rw [hM i h6 (by omega), List.getElem?_append_left h7]
      have s1 := (b5 M fun i h6 h7 => hM2 i (by omega) h7).comp (h5 M fun i h6 h7 => by rw [hM2 i h6 (by omega)]; exact b2 i h7)
      refine (Sem.fork hM1 rfl s1 Sem.id).congr fun i j => ?_
      constructor
      · rintro (⟨m, h6, q, h7, h8⟩ | h6)
        · exact ⟨q + 1, by omega, m, h6, h8⟩
        · exact ⟨0, by omega, h6⟩
      · rintro ⟨q, h6, h7⟩
        cases q with
        | zero => exact .inr h7
        | succ q => obtain ⟨m, h8, h9⟩ := h7; exact .inl ⟨m, h8, q, by omega, h9⟩)
    refine ⟨?_, fun i hi => ?_, c3, c4, ?_⟩
    · rw [c1, hl, b1, Nat.succ_mul]; omega
    · rw [c2 i (by omega), List.getElem?_append_left (by omega), b2 i hi]
    · rw [show q0 + (n + 1) = q0 + 1 + n by omega]; exact c5

theorem its_builds (h : BuildsAll l f R N) {next base : Nat} : ∀ (n at_ : Nat) (ms : List St4) (P : Nat → Nat → Prop), at_ < ms.length → base ≤ ms.length → Ws ms → (∀ M, Ag M ms base → Sem M l P at_ next) →
    (its4 f n at_ ms).1.length = ms.length + n * N ∧ (∀ i, i < ms.length → (its4 f n at_ ms).1[i]? = ms[i]?) ∧ Ws (its4 f n at_ ms).1 ∧ (its4 f n at_ ms).2 < (its4 f n at_ ms).1.length ∧
      ∀ M, Ag M (its4 f n at_ ms).1 base → Sem M l (fun i j => ∃ m, It R n i m ∧ P m j) (its4 f n at_ ms).2 next
  | 0, at_, ms, P, h1, h3, h4, h5 => ⟨by simp [its4], fun i hi => rfl, h4, h1, fun M hM => (h5 M hM).congr fun i j => by simp [It]⟩
  | n + 1, at_, ms, P, h1, h3, h4, h5 => by
    obtain ⟨b1, b2, b3, b4, b5⟩ := h at_ ms h1 h4
    simp only [its4]
    generalize f at_ ms = r at *
    obtain ⟨c1, c2, c3, c4, c5⟩ := its_builds h (next := next) (base := base) n r.2 r.1 (fun i j => ∃ m, R i m ∧ P m j) b4 (by omega) b3 (fun M hM =>
      (b5 M fun i h6 h7 => hM i (by omega) h7).comp (h5 M fun i h6 h7 => by rw [hM i h6 (by omega)]; exact b2 i h7))
    refine ⟨by rw [c1, b1, Nat.succ_mul]; omega, fun i hi => by rw [c2 i (by omega), b2 i hi], c3, c4, fun M hM => (c5 M hM).congr fun i j => ?_⟩
    constructor
    · rintro ⟨m, h6, m', h7, h8⟩
      exact ⟨m', (It_add n 1 i m').2 ⟨m, h6, (It_one m m').2 h7⟩, h8⟩
    · rintro ⟨m', h6, h8⟩
      obtain ⟨m, h9, h10⟩ := (It_add n 1 i m').1 h6
      exact ⟨m, h9, m', (It_one m m').1 h10, h8⟩
end

mutual
theorem tree_builds (l : List UInt8) : ∀ e, Good e → BuildsAll l (tree4 e) (Mt l e) (nst e)
  | .node op set kids lo hi, hg => by
    obtain ⟨n1, n2, n3, n4, n5, n6, n7, n8, n9, n10, n11, n12, n13, n14, n15⟩ := op_ne
    intro next ms hn hw
    simp only [Good] at hg
    rcases hg with ⟨rfl, hg⟩ | ⟨rfl, hg⟩ | ⟨rfl, hg⟩ | ⟨rfl, hg⟩ | ⟨rfl, hg, hg2⟩ | ⟨rfl, hg, hg2, h0, h1, h2, h3, h4⟩
    · have hb := put_builds (l := l) (R := Mt l (.node opSet set kids lo hi)) hn hw ⟨0, bits set, next, 0⟩ rfl rfl fun M hM => by
        have : Mt l (.node opSet set kids lo hi) = fun i j => i < l.length ∧ byteAt l i ∈ set ∧ j = i + 1 := by funext i j; simp only [Mt, if_true]
        rw [this]; exact Sem.set hM rfl rfl rfl
      have e1 : tree4 (.node opSet set kids lo hi) next ms = (ms ++ [⟨0, bits set, next, 0⟩], ms.length) := by simp only [tree4, n1, n2, n3, n4, n5, if_false]
      have e2 : nst (.node opSet set kids lo hi) = 1 := by simp only [nst, n1, n2, n3, n4, n5, if_false]
      rw [e2]
      exact ⟨by rw [e1]; exact hb.len, fun i hi => by rw [e1]; exact hb.pre i hi, by rw [e1]; exact hb.ws, by rw [e1]; exact hb.lt, fun M hM => by rw [e1] at hM ⊢; exact hb.sem M hM⟩
    · have hb := put_builds (l := l) (R := Mt l (.node opBol set kids lo hi)) hn hw ⟨2, [], next, 0⟩ rfl rfl fun M hM => by
        have : Mt l (.node opBol set kids lo hi) = fun i j => i = 0 ∧ j = 0 := by funext i j; simp only [Mt, Ne.symm n1, if_true, if_false]
        rw [this]; exact Sem.bol hM rfl rfl
      have e1 : tree4 (.node opBol set kids lo hi) next ms = (ms ++ [⟨2, [], next, 0⟩], ms.length) := by simp only [tree4, if_true]
      have e2 : nst (.node opBol set kids lo hi) = 1 := by simp only [nst, if_true]
      rw [e2]
      exact ⟨by rw [e1]; exact hb.len, fun i hi => by rw [e1]; exact hb.pre i hi, by rw [e1]; exact hb.ws, by rw [e1]; exact hb.lt, fun M hM => by rw [e1] at hM ⊢; exact hb.sem M hM⟩
    · have hb := put_builds (l := l) (R := Mt l (.node opEol set kids lo hi)) hn hw ⟨3, [], next, 0⟩ rfl rfl fun M hM => by
        have : Mt l (.node opEol set kids lo hi) = fun i j => i = l.length ∧ j = l.length := by funext i j; simp only [Mt, Ne.symm n2, Ne.symm n6, if_true, if_false]
        rw [this]; exact Sem.eol hM rfl rfl
      have e1 : tree4 (.node opEol set kids lo hi) next ms = (ms ++ [⟨3, [], next, 0⟩], ms.length) := by simp only [tree4, Ne.symm n6, if_true, if_false]
      have e2 : nst (.node opEol set kids lo hi) = 1 := by simp only [nst, Ne.symm n6, if_true, if_false]
      rw [e2]
      exact ⟨by rw [e1]; exact hb.len, fun i hi => by rw [e1]; exact hb.pre i hi, by rw [e1]; exact hb.ws, by rw [e1]; exact hb.lt, fun M hM => by rw [e1] at hM ⊢; exact hb.sem M hM⟩
    · have hb := cat_builds l kids hg next ms hn hw
      have e1 : tree4 (.node opCat set kids lo hi) next ms = cat4 kids next ms := by simp only [tree4, Ne.symm n7, Ne.symm n10, if_true, if_false]
      have e2 : nst (.node opCat set kids lo hi) = nsts kids := by simp only [nst, Ne.symm n7, Ne.symm n10, if_true, if_false]
      have e3 : Mt l (.node opCat set kids lo hi) = MtCat l kids := by funext i j; simp only [Mt, Ne.symm n3, Ne.symm n7, Ne.symm n10, if_true, if_false]
      rw [e2, e3]
      exact ⟨by rw [e1]; exact hb.len, fun i hi => by rw [e1]; exact hb.pre i hi, by rw [e1]; exact hb.ws, by rw [e1]; exact hb.lt, fun M hM => by rw [e1] at hM ⊢; exact hb.sem M hM⟩
    · have hb := alt_builds l kids hg2 hg next ms hn hw
      have e1 : tree4 (.node opAlt set kids lo hi) next ms = alt4 kids next ms := by simp only [tree4, Ne.symm n8, Ne.symm n11, Ne.symm n13, if_true, if_false]
      have e2 : nst (.node opAlt set kids lo hi) = nsts kids + (kids.length - 1) := by simp only [nst, Ne.symm n8, Ne.symm n11, Ne.symm n13, if_true, if_false]
      have e3 : Mt l (.node opAlt set kids lo hi) = MtAlt l kids := by funext i j; simp only [Mt, Ne.symm n4, Ne.symm n8, Ne.symm n11, Ne.symm n13, if_true, if_false]
      rw [e2, e3]
      exact ⟨by rw [e1]; exact hb.len, fun i hi => by rw [e1]; exact hb.pre i hi, by rw [e1]; exact hb.ws, by rw [e1]; exact hb.lt, fun M hM => by rw [e1] at hM ⊢; exact hb.sem M hM⟩
    · have hb := rep_builds l kids hg2 hg lo hi h0 h4 next ms hn hw
      have e1 : tree4 (.node opRep set kids lo hi) next ms = rep4 kids lo hi next ms := by simp only [tree4, Ne.symm n9, Ne.symm n12, Ne.symm n14, Ne.symm n15, if_true, if_false]
      have e2 : nst (.node opRep set kids lo hi) = nrep kids lo hi := by simp only [nst, Ne.symm n9, Ne.symm n12, Ne.symm n14, Ne.symm n15, if_true, if_false]
      have e3 : Mt l (.node opRep set kids lo hi) = MtRep l kids lo hi := by funext i j; simp only [Mt, Ne.symm n5, Ne.symm n9, Ne.symm n12, Ne.symm n14, Ne.symm n15, if_true, if_false]
      rw [e2, e3]
      exact ⟨by rw [e1]; exact hb.len, fun i hi => by rw [e1]; exact hb.pre i hi, by rw [e1]; exact hb.ws, by rw [e1]; exact hb.lt, fun M hM => by rw [e1] at hM ⊢; exact hb.sem M hM⟩
theorem cat_builds (l : List UInt8) : ∀ ks, Goods ks → BuildsAll l (cat4 ks) (MtCat l ks) (nsts ks)
  | [], _, next, ms, hn, hw => ⟨by simp [cat4, nsts], fun i hi => by simp only [cat4], by simp only [cat4]; exact hw, by simp only [cat4]; exact hn, fun M hM => by simp only [cat4, MtCat]; exact Sem.id⟩
  | k :: ks, hg, next, ms, hn, hw => by
    simp only [Goods] at hg
    obtain ⟨b1, b2, b3, b4, b5⟩ := cat_builds l ks hg.2 next ms hn hw
    obtain ⟨c1, c2, c3, c4, c5⟩ := tree_builds l k hg.1 (cat4 ks next ms).2 (cat4 ks next ms).1 b4 b3
    refine ⟨?_, fun i hi => ?_, ?_, ?_, fun M hM => ?_⟩
    · simp only [cat4, nsts]; omega
    · simp only [cat4]; rw [c2 i (by omega), b2 i hi]
    · simp only [cat4]; exact c3
    · simp only [cat4]; exact c4
    · simp only [cat4, MtCat] at hM ⊢
      exact (c5 M fun i h1 h2 => hM i (by omega) h2).comp (b5 M fun i h1 h2 => by rw [hM i h1 (by omega)]; exact c2 i h2)
theorem alt_builds (l : List UInt8) : ∀ ks, Goods ks → ks ≠ [] → BuildsAll l (alt4 ks) (MtAlt l ks) (nsts ks + (ks.length - 1))
  | [], _, h, _, _, _, _ => absurd rfl h
  | [k], hg, _, next, ms, hn, hw => by
    simp only [Goods] at hg
    obtain ⟨c1, c2, c3, c4, c5⟩ := tree_builds l k hg.1 next ms hn hw
    refine ⟨?_, fun i hi => ?_, ?_, ?_, fun M hM => ?_⟩
    · simp only [alt4, nsts]; simp; omega
    · simp only [alt4]; exact c2 i hi
    · simp only [alt4]; exact c3
    · simp only [alt4]; exact c4
    · simp only [alt4, MtAlt] at hM ⊢
      exact (c5 M hM).congr fun i j => by simp
  | k :: k2 :: ks, hg, _, next, ms, hn, hw => by
    simp only [Goods] at hg
    obtain ⟨b1, b2, b3, b4, b5⟩ := alt_builds l (k2 :: ks) (by simp only [Goods]; exact hg.2) (by simp) next ms hn hw
    obtain ⟨c1, c2, c3, c4, c5⟩ := tree_builds l k hg.1 next (alt4 (k2 :: ks) next ms).1 (by omega) b3
    refine ⟨?_, fun i hi => ?_, ?_, ?_, fun M hM => ?_⟩
    · simp only [alt4, List.length_append, List.length_cons, List.length_nil]; simp only [nsts, List.length_cons] at b1 ⊢; omega
    · simp only [alt4]; rw [List.getElem?_append_left (by omega), c2 i (by omega), b2 i hi]
    · simp only [alt4]; exact c3.snoc (by show (tree4 k next (alt4 (k2 :: ks) next ms).1).2 < _; omega) (by show (alt4 (k2 :: ks) next ms).2 < _; omega)
    · simp only [alt4]; simp
    · simp only [alt4] at hM ⊢
      have e0 : MtAlt l (k :: k2 :: ks) = fun i j => Mt l k i j ∨ MtAlt l (k2 :: ks) i j := by
        funext i j
        conv => lhs; rw [MtAlt]
      rw [e0]
      generalize hq : tree4 k next (alt4 (k2 :: ks) next ms).1 = q at *
      have hl : (q.1 ++ [(⟨1, [], q.2, (alt4 (k2 :: ks) next ms).2⟩ : St4)]).length = q.1.length + 1 := by simp
      have hM1 : M[q.1.length]? = some ⟨1, [], q.2, (alt4 (k2 :: ks) next ms).2⟩ := by rw [hM _ (by omega) (by omega)]; simp
      have hM2 : ∀ i, ms.length ≤ i → i < q.1.length → M[i]? = q.1[i]? := fun i h6 h7 => by rw [hM i h6 (by omega), List.getElem?_append_left h7]
      exact Sem.fork hM1 rfl (c5 M fun i h1 h2 => hM2 i (by omega) h2) (b5 M fun i h1 h2 => by rw [hM2 i h1 (by omega)]; exact c2 i h2)
theorem rep_builds (l : List UInt8) : ∀ ks, Goods ks → ks.length = 1 → ∀ lo hi : Int, 0 ≤ lo → (hi < 0 ∨ lo ≤ hi) → BuildsAll l (rep4 ks lo hi) (MtRep l ks lo hi) (nrep ks lo hi)
  | [], _, h, _, _, _, _ => by simp at h
  | k :: ks, hg, _, lo, hi, hlo, hhi => by
    intro next ms hn hw
    simp only [Goods] at hg
    have hk := tree_builds l k hg.1
    by_cases hneg : hi < 0
    · obtain ⟨b1, b2, b3, b4, b5⟩ := star_builds hk hn hw
      obtain ⟨c1, c2, c3, c4, c5⟩ := its_builds hk (next := next) (base := ms.length) lo.toNat (star4 (tree4 k) next ms).2 (star4 (tree4 k) next ms).1 _ b4 (by omega) b3 b5
      have e1 : rep4 (k :: ks) lo hi next ms = its4 (tree4 k) lo.toNat (star4 (tree4 k) next ms).2 (star4 (tree4 k) next ms).1 := by simp only [rep4, if_pos hneg]
      refine ⟨?_, fun i hi' => ?_, ?_, ?_, fun M hM => ?_⟩
      · rw [e1, c1, b1]; simp only [nrep, if_pos hneg]; omega
      · rw [e1, c2 i (by omega), b2 i hi']
      · rw [e1]; exact c3
      · rw [e1]; exact c4
      · rw [e1] at hM ⊢
        refine (c5 M hM).congr fun i j => ?_
        simp only [MtRep]
        constructor
        · rintro ⟨m, h1, q, h2⟩
          exact ⟨lo.toNat + q, by omega, .inl hneg, (It_add _ _ _ _).2 ⟨m, h1, h2⟩⟩
        · rintro ⟨n, h1, _, h2⟩
          rw [show n = lo.toNat + (n - lo.toNat) by omega] at h2
          obtain ⟨m, h3, h4⟩ := (It_add _ _ _ _).1 h2
          exact ⟨m, h3, _, h4⟩
    · obtain ⟨b1, b2, b3, b4, b5⟩ := opt_builds hk (next := next) (base := ms.length) (hi - lo).toNat 0 next ms hn hn (Nat.le_refl _) hw (fun M _ => Sem.id.congr fun i j => by
        constructor
        · intro h; exact ⟨0, Nat.le_refl _, h⟩
        · rintro ⟨m, h1, h2⟩; obtain rfl : m = 0 := by omega
          exact h2)
      obtain ⟨c1, c2, c3, c4, c5⟩ := its_builds hk (next := next) (base := ms.length) lo.toNat (opt4 (tree4 k) (hi - lo).toNat next next ms).2 (opt4 (tree4 k) (hi - lo).toNat next next ms).1 _ b4 (by omega) b3 b5
      have e1 : rep4 (k :: ks) lo hi next ms = its4 (tree4 k) lo.toNat (opt4 (tree4 k) (hi - lo).toNat next next ms).2 (opt4 (tree4 k) (hi - lo).toNat next next ms).1 := by simp only [rep4, if_neg hneg]
      refine ⟨?_, fun i hi' => ?_, ?_, ?_, fun M hM => ?_⟩
      · rw [e1, c1, b1]; simp only [nrep, if_neg hneg]; omega
      · rw [e1, c2 i (by omega), b2 i hi']
      · rw [e1]; exact c3
      · rw [e1]; exact c4
      · rw [e1] at hM ⊢
        refine (c5 M hM).congr fun i j => ?_
        simp only [MtRep]
        constructor
        · rintro ⟨m, h1, q, h2, h3⟩
          exact ⟨lo.toNat + q, by omega, .inr (by omega), (It_add _ _ _ _).2 ⟨m, h1, h3⟩⟩
        · rintro ⟨n, h1, h2, h3⟩
          rw [show n = lo.toNat + (n - lo.toNat) by omega] at h3
          obtain ⟨m, h4, h5⟩ := (It_add _ _ _ _).1 h3
          exact ⟨m, h4, n - lo.toNat, by omega, h5⟩
end

/-! ### How many steps -/
theorem sizes3_sum {ks : List Re} (hk : ∀ k ∈ ks, 0 ≤ size3 k) (K : Int) (hK : 0 ≤ K) (hn : ∀ k ∈ ks, (size3 k ≤ 2000 → (nst k : Int) ≤ K * size3 k)) : ∀ n, 0 ≤ n → sizes3 ks n ≤ 2000 → (nsts ks : Int) ≤ K * (sizes3 ks n - n) := by
  induction ks with
  | nil => intro n h1 h2; simp [sizes3, nsts]
  | cons k ks ih =>
    intro n h1 h2
    simp only [sizes3, nsts] at h2 ⊢
    have h3 := hk k (by simp)
    have hge : ∀ (ks : List Re) (hk : ∀ k ∈ ks, 0 ≤ size3 k) (n : Int), n ≤ 2001 → n ≤ sizes3 ks n := by
      intro ks
      induction ks with
      | nil => intro _ n h; simp only [sizes3]; omega
      | cons k ks ih =>
        intro hk n h
        have h1 := hk k (by simp)
        have h2 := ih (fun k h => hk k (by simp [h])) (min (n + size3 k) 2001) (by omega)
        simp only [sizes3]
        omega
    have h4 := hge ks (fun k h => hk k (by simp [h])) (min (n + size3 k) 2001) (by omega)
    have h5 : min (n + size3 k) 2001 = n + size3 k := by omega
    rw [h5] at h2 h4 ⊢
    have h6 := ih (fun k h => hk k (by simp [h])) (fun k h => hn k (by simp [h])) (n + size3 k) (by omega) h2
    have h7 := hn k (by simp) (by omega)
    have h8 : K * (sizes3 ks (n + size3 k) - n) = K * size3 k + K * (sizes3 ks (n + size3 k) - (n + size3 k)) := by rw [← Int.mul_add]; congr 1; omega
    rw [h8]
    omega
theorem nst_le (K : Int) (hK : 255 ≤ K) : ∀ e, Good e → size3 e ≤ 2000 → (wt e : Int) ≤ K → (nst e : Int) ≤ K * size3 e := by
  refine Re.ind fun op set kids lo hi ih hg hs hw => ?_
  obtain ⟨n1, n2, n3, n4, n5, n6, n7, n8, n9, n10, n11, n12, n13, n14, n15⟩ := op_ne
  have hk : ∀ k ∈ kids, 0 ≤ size3 k := fun k hk => (size3_bound k (Goods_mem hg.kids hk)).1
  have hb := sizes3_bound (ks := kids) (fun k hk => size3_bound k (Goods_mem hg.kids hk)) 0 (by omega) (by omega)
  simp only [wt] at hw
  have hn : ∀ k ∈ kids, size3 k ≤ 2000 → (nst k : Int) ≤ K * size3 k := fun k hk h => ih k hk (Goods_mem hg.kids hk) h (by have := wts_mem hk; omega)
  have hsum : sizes3 kids 0 ≤ 2000 → (nsts kids : Int) ≤ K * sizes3 kids 0 := fun h => by have := sizes3_sum hk K (by omega) hn 0 (by omega) h; simpa using this
  have hbd := hg.bounds
  have hlen := wts_len kids
  simp only [Good] at hg
  rcases hg with ⟨rfl, hg⟩ | ⟨rfl, hg⟩ | ⟨rfl, hg⟩ | ⟨rfl, hg⟩ | ⟨rfl, hg, hg2⟩ | ⟨rfl, hg⟩
  · simp only [nst, size3, n1, n2, n3, n4, n5, if_true, if_false]; omega
  · simp only [nst, size3, Ne.symm n1, if_true, if_false]; omega
  · simp only [nst, size3, Ne.symm n2, Ne.symm n6, if_true, if_false]; omega
  · simp only [nst, size3, Ne.symm n3, Ne.symm n7, Ne.symm n10, n13, n14, if_true, if_false] at hs ⊢
    have h1 : min (sizes3 kids 0) 2001 = sizes3 kids 0 := by omega
    rw [h1]
    exact hsum (by omega)
  · simp only [nst, size3, Ne.symm n4, Ne.symm n8, Ne.symm n11, Ne.symm n13, if_true, if_false] at hs ⊢
    have h1 : min (sizes3 kids 0 + 1) 2001 = sizes3 kids 0 + 1 := by omega
    rw [h1, Int.mul_add]
    have := hsum (by omega)
    omega
  · obtain ⟨b1, b2, b3, b4, b5, b6⟩ := hbd rfl
    simp only [nst, size3, Ne.symm n5, Ne.symm n9, Ne.symm n12, Ne.symm n14, Ne.symm n15, if_true, if_false] at hs ⊢
    have h1 : min (sizes3 kids 0 * (if hi < 0 then lo + 1 else max 1 hi) + 1) 2001 = sizes3 kids 0 * (if hi < 0 then lo + 1 else max 1 hi) + 1 := by omega
    rw [h1]
    obtain ⟨k, rfl⟩ : ∃ k, kids = [k] := by
      match kids, b6 with
      | [k], _ => exact ⟨k, rfl⟩
    have hkk := hk k (by simp)
    have hkb := (size3_bound k (by simp only [Good, Goods] at hg; exact hg.2.1.1)).2
    have e1 : sizes3 [k] 0 = size3 k := by simp only [sizes3]; omega
    rw [e1] at hs h1 ⊢
    have hle : size3 k ≤ 2000 := by
      have h2 : size3 k ≤ size3 k * (if hi < 0 then lo + 1 else max 1 hi) := by
        have h3 : (1 : Int) ≤ (if hi < 0 then lo + 1 else max 1 hi) := by split <;> omega
        have := Int.mul_le_mul_of_nonneg_left h3 hkk
        omega
      omega
    have hnk := hn k (by simp) hle
    simp only [nrep]
    obtain ⟨a, rfl⟩ : ∃ a : Nat, lo = a := ⟨lo.toNat, by omega⟩
    rw [Int.toNat_natCast, Int.mul_add, Int.mul_one, ← Int.mul_assoc]
    by_cases hneg : hi < 0
    · rw [if_pos hneg, if_pos hneg, Int.mul_add, Int.mul_one]
      have h3 : (a : Int) * (nst k : Int) ≤ (a : Int) * (K * size3 k) := Int.mul_le_mul_of_nonneg_left hnk (by omega)
      have h4 : K * size3 k * (a : Int) = (a : Int) * (K * size3 k) := Int.mul_comm _ _
      push_cast
      omega
    · rw [if_neg hneg, if_neg hneg]
      obtain ⟨d, rfl⟩ : ∃ d : Nat, hi = a + d := ⟨(hi - a).toNat, by omega⟩
      have h5 : ((a : Int) + d - a).toNat = d := by omega
      rw [h5]
      have h3 : ((a : Int) + d) * (nst k : Int) ≤ ((a : Int) + d) * (K * size3 k) := Int.mul_le_mul_of_nonneg_left hnk (by omega)
      have h4 : ((a : Int) + d) * (K * size3 k) ≤ K * size3 k * max 1 ((a : Int) + d) := by
        rw [Int.mul_comm]
        exact Int.mul_le_mul_of_nonneg_left (by omega) (Int.mul_nonneg (by omega) hkk)
      have h6 : ((d * (nst k + 1) + a * nst k : Nat) : Int) = ((a : Int) + d) * (nst k : Int) + d := by
        push_cast
        rw [Int.add_mul, Int.mul_add]
        omega
      rw [h6]
      omega

/-- What a machine accepts from its first step on. -/
def new4 (e : Re) : List St4 × Nat := tree4 e 0 [⟨4, [], 0, 0⟩]
theorem new_builds (l : List UInt8) (e : Re) (hg : Good e) : Builds l (tree4 e) (Mt l e) (nst e) 0 [⟨4, [], 0, 0⟩] :=
  tree_builds l e hg 0 _ (by simp) (fun i st hi => by
    cases i with
    | zero => simp at hi; subst hi; simp
    | succ i => simp at hi)
theorem new_acc (l : List UInt8) (e : Re) (hg : Good e) (i f : Nat) : (∃ n, Acc (new4 e).1 l (new4 e).2 i f n) ↔ Mt l e i f := by
  obtain ⟨b1, b2, b3, b4, b5⟩ := new_builds l e hg
  have hs := b5 (new4 e).1 (fun i _ _ => rfl)
  have h0 : (new4 e).1[0]? = some ⟨4, [], 0, 0⟩ := b2 0 (by simp)
  have hd : ∀ i f n, Acc (new4 e).1 l 0 i f n ↔ f = i ∧ n = 0 := by
    intro i f n
    constructor
    · intro h
      cases h with
      | done h1 h2 => exact ⟨rfl, rfl⟩
      | eat h1 h2 => rw [h0] at h1; injection h1 with h1; subst h1; simp at h2
      | forkA h1 h2 => rw [h0] at h1; injection h1 with h1; subst h1; simp at h2
      | forkB h1 h2 => rw [h0] at h1; injection h1 with h1; subst h1; simp at h2
      | first h1 h2 => rw [h0] at h1; injection h1 with h1; subst h1; simp at h2
      | last h1 h2 => rw [h0] at h1; injection h1 with h1; subst h1; simp at h2
    · rintro ⟨rfl, rfl⟩
      exact .done h0 rfl
  constructor
  · rintro ⟨n, h⟩
    obtain ⟨j, m, _, h2, h3⟩ := hs.1 i f n h
    obtain ⟨rfl, _⟩ := (hd _ _ _).1 h3
    exact h2
  · intro h
    exact hs.2 i f f 0 h ((hd _ _ _).2 ⟨rfl, rfl⟩)
end Go.Proofs.Ytddichibegppjaa
