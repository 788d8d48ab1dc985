/- Regions that draw their order: the verification condition, along a plan. -/
import Derived.Test.YtddichibegppjaaVj
set_option linter.unusedSimpArgs false
set_option linter.unusedVariables false
namespace Go.VC
open Go

/-- 0: looks at no memory; 1: a load; 2: whatever else. -/
def opk (o : Oper) : Nat := match o.op with
  | .move _ | .assign _ | .pick .. | .nilCheck _ | .binOp .. | .unOp .. | .extract .. | .fieldAddr .. | .indexAddr .. | .index .. | .slice .. | .convert .. | .build .. => 0
  | .load .. => 1
  | .call c => match c.callee with | .builtin .len | .builtin .max | .builtin .min => 0 | _ => 2
  | _ => 2

/-- j waits for i, directly or not: told by numbers, a bit for each. -/
def An (msk : List Nat) (i j : Nat) : Bool := (msk.getD j 0).testBit i

/-- The numbers are right. -/
def anOk (ops : List Oper) (msk : List Nat) : Bool :=
  ops.zipIdx.all fun (o, j) => o.after.all (fun e => !Region.binds .any e || e.on < j) &&
    (List.range ops.length).all fun i => !An msk i j || o.after.any fun e => Region.binds .any e && (e.on == i || An msk i e.on)

def masks (ops : List Oper) : List Nat := (Region.before ops.toArray).toList

/-- A plan: which operation is taken next; whether it is held for a writer; whether, of a load, what it yields is to be shown again behind each writer that follows; of a writer: which loads need no showing from there on, because it waits for them. 'two': of two writers either may be next. -/
inductive Plan where
  | nil
  | op (i : Nat) (w f : Bool) (d : List Nat) (r : Plan)
  | two (i j : Nat) (d e : List Nat) (r s : Plan)
def Plan.len : Plan → Nat
  | .nil => 0
  | .op _ _ _ _ r => r.len + 1
  | .two _ _ _ _ r _ => r.len + 1
/-- The writers that are to come. -/
def Plan.ws : Plan → List Nat
  | .nil => []
  | .op i w _ _ r => if w then i :: r.ws else r.ws
  | .two i j _ _ r s => i :: j :: (r.ws ++ s.ws)
def planOk (ops : List Oper) (msk wl : List Nat) : Plan → Array Bool → Bool
  | .nil, l => Region.ready .any ops.toArray l == []
  | .op i w f d pl, l => d.all (fun j => An msk j i) && (Region.ready .any ops.toArray l).contains i && (w == wl.contains i) &&
    (match ops[i]? with
    | some o => if w = false then decide (opk o < 2) && Region.free .any ops.toArray l i && (f || decide (opk o = 0) || pl.ws.all fun k => An msk i k) else Region.ready .any ops.toArray l == [i]
    | none => false) && planOk ops msk wl pl (l.setIfInBounds i true)
  | .two i j d e r s, l => d.all (fun k => An msk k i) && e.all (fun k => An msk k j) && (Region.ready .any ops.toArray l == [i, j]) && wl.contains i && wl.contains j && (r.len == s.len) &&
    (match ops[i]?, ops[j]? with
    | some o, some o' => o.guard.isNone && o'.guard.isNone
    | _, _ => false) && planOk ops msk wl r (l.setIfInBounds i true) && planOk ops msk wl s (l.setIfInBounds j true)

def drawOk (n : Nat) (ops : List Oper) (msk wl : List Nat) (pl : Plan) : Bool :=
  ops.all (fun o => match o.dst with | some d => decide (d < n) | none => true) && Region.noSelect ops.toArray && anOk ops msk && pl.len == ops.length && planOk ops msk wl pl (Array.replicate ops.length false)

abbrev Ext := List (Nat × (World → Prop))
def Stb : (e : Ext) → World → Prop
  | [], _ => True
  | c :: l, w => c.2 w ∧ Stb l w
def rmE (d : Nat) : Ext → Ext
  | [] => []
  | c :: l => if c.1 = d then rmE d l else c :: rmE d l
def dropE : List Nat → Ext → Ext
  | [], e => e
  | d :: ds, e => dropE ds (rmE d e)

def pushE (f : Bool) (c : Nat × (World → Prop)) (e : Ext) : Ext := match f with | true => c :: e | false => e
def selE (b : Bool) (x y : Ext) : Ext := match b with | true => x | false => y

def kd (w : Bool) (o : Oper) : Nat := match w with | true => 2 | false => opk o

def exD (P : Program) (all : List Oper) : (pl : Plan) → (ext : Ext) → Fr → World → (K : Fr → World → Prop) → (_ : Tok (all, pl, ext, K) := .mk) → Prop
  | .nil, _, F, w, K, _ => K F w
  | .op i wr f d pl, ext, F, w, K, _ =>
    match all[i]? with
    | none => False
    | some o =>
      let go : Prop := match kd wr o with
        | 0 => pv P o F fun v => exD P all pl ext (put F o.dst v) w K
        | 1 => (match o.op with
          | .load t x => (match ev F x with
            | .pointer (some ⟨b, q, none⟩) => (match lv P t b q w with
              | some v => exD P all pl (pushE f (i, fun w' => lv P t b q w' = some v) ext) (put F o.dst v) w K
              | none => False)
            | _ => False)
          | _ => False)
        | _ => ex P o F w (fun v w' => Stb (dropE d ext) w' ∧ exD P all pl (dropE d ext) (put F o.dst v) w' K) (fun _ _ => False)
      match o.guard with
      | none => go
      | some (j, want) => match gv all j F with
        | .bool b => gsel b want go (exD P all pl (selE (!wr) ext (dropE d ext)) (put F o.dst undef) w K)
        | .tuple _ => exD P all pl (selE (!wr) ext (dropE d ext)) (put F o.dst undef) w K
        | _ => False
  | .two i j d e r s, ext, F, w, K, _ =>
    match all[i]?, all[j]? with
    | some o, some o' => ex P o F w (fun v w' => Stb (dropE d ext) w' ∧ exD P all r (dropE d ext) (put F o.dst v) w' K) (fun _ _ => False) ∧
        ex P o' F w (fun v w' => Stb (dropE e ext) w' ∧ exD P all s (dropE e ext) (put F o'.dst v) w' K) (fun _ _ => False)
    | _, _ => False

theorem mem_rmE {d : Nat} : ∀ {e : Ext} {c : Nat × (World → Prop)}, c ∈ rmE d e → c ∈ e
  | x :: e, c, h => by
    simp only [rmE] at h
    split at h
    · simp [mem_rmE h]
    · rcases List.mem_cons.1 h with rfl | h
      · simp
      · simp [mem_rmE h]
theorem rmE_mem {d : Nat} : ∀ {e : Ext} {c : Nat × (World → Prop)}, c ∈ e → c.1 ≠ d → c ∈ rmE d e
  | x :: e, c, h, hc => by
    simp only [rmE]
    rcases List.mem_cons.1 h with rfl | h
    · rw [if_neg hc]; simp
    · split
      · exact rmE_mem h hc
      · simp [rmE_mem h hc]
theorem dropE_mem : ∀ {ds : List Nat} {e : Ext} {c : Nat × (World → Prop)}, c ∈ e → c.1 ∉ ds → c ∈ dropE ds e
  | [], e, c, h, _ => h
  | d :: ds, e, c, h, hc => by
    simp only [List.mem_cons, not_or] at hc
    exact dropE_mem (ds := ds) (e := rmE d e) (rmE_mem h hc.1) hc.2
theorem mem_dropE : ∀ {ds : List Nat} {e : Ext} {c : Nat × (World → Prop)}, c ∈ dropE ds e → c ∈ e
  | [], e, c, h => h
  | d :: ds, e, c, h => mem_rmE (mem_dropE h)

section
variable {P : Program} {n : Nat} {ds : List Deferred} {all : List Oper} {msk : List Nat}

theorem an_down (ha : anOk all msk = true) {l : Array Bool} (hd : Down all.toArray l) {i : Nat} (hilt : i < all.length) (hi : l.getD i false = false) : ∀ (m k : Nat), k < m → k < all.length → l.getD k false = true → An msk i k = false
  | 0, _, h, _, _ => by omega
  | m + 1, k, hkm, hk, hl => by
    cases hA : An msk i k with
    | false => rfl
    | true =>
      exfalso
      have h1 := List.all_eq_true.1 ha (all[k], k) (by rw [List.mem_iff_getElem?]; exact ⟨k, by simp [hk]⟩)
      simp only [Bool.and_eq_true, List.all_eq_true, List.mem_range] at h1
      obtain ⟨h2, h3⟩ := h1
      have h4 := h3 i hilt
      simp only [hA, Bool.not_true, Bool.false_or] at h4
      obtain ⟨e, he, hb⟩ := Array.any_eq_true'.1 h4
      simp only [Bool.and_eq_true, Bool.or_eq_true, beq_iff_eq] at hb
      have hon := hd k all[k] hl (by simp [hk]) e he hb.1
      rcases hb.2 with h | h
      · rw [h, hi] at hon; cases hon
      · have hlt : e.on < k := by
          have := Array.all_eq_true_iff_forall_mem.1 h2 e he
          simpa [hb.1] using this
        have := an_down ha hd hilt hi m e.on (by omega) (by omega) hon
        rw [this] at h; cases h

/-- What holds at every point: the loads that a writer might still come ahead of. -/
def Jx (msk wl : List Nat) (act : List (Nat × (World → Prop))) (l : Array Bool) (w : World) : Prop :=
  ∀ c ∈ act, (∀ k, l.getD k false = true → k ∈ wl → An msk c.1 k = false) → c.2 w

theorem Stb_mem {l : Ext} {w : World} (h : Stb l w) : ∀ c ∈ l, c.2 w := by
  induction l with
  | nil => intro c hc; cases hc
  | cons d l ih =>
    intro c hc
    rcases List.mem_cons.1 hc with rfl | hc
    · exact h.1
    · exact ih h.2 c hc

theorem Stb_of {l : Ext} {w : World} (h : ∀ c ∈ l, c.2 w) : Stb l w := by
  induction l with
  | nil => trivial
  | cons d l ih => exact ⟨h d (by simp), ih fun c hc => h c (by simp [hc])⟩

theorem Jx_of {wl : List Nat} {act : List (Nat × (World → Prop))} {l : Array Bool} {w : World} (h : ∀ c ∈ act, c.2 w) : Jx msk wl act l w := fun c hc _ => h c hc

theorem bne_not {b want : Bool} (e : ¬ b = want) : b = !want := by cases b <;> cases want <;> simp_all
theorem lt_of_get {i : Nat} {o : Oper} (h : all[i]? = some o) : i < all.length := (List.getElem?_eq_some_iff.1 h).1

/-- What the plan's checks say of a load that is not shown again. -/
def Cov (msk : List Nat) (act : List (Nat × (World → Prop))) (ext : Ext) (pl : Plan) : Prop :=
  ∀ c ∈ act, c ∈ ext ∨ ∀ k ∈ pl.ws, An msk c.1 k = true

theorem exD_sound (ha : anOk all msk = true) (hsel : Region.noSelect all.toArray = true) (hall : ∀ o ∈ all, dok n o.dst) {wl : List Nat} {K : Fr → World → Prop} {Q : Act → World → Prop}
    (hK : ∀ F a w, K F w → Rep n ds F a → Q a w) : ∀ (pl : Plan) (l : Array Bool) (act : List (Nat × (World → Prop))) (ext : Ext) (F : Fr) (w : World) (a : Act),
      l.size = all.length → planOk all msk wl pl l = true → Down all.toArray l → exD P all pl ext F w K → Rep n ds F a → (∀ c ∈ act, c.2 w) → Cov msk act ext pl → Stb ext w → wpJ P all.toArray (Jx msk wl act) Q pl.len l a w
  | .nil, l, act, ext, F, w, a, _, hp, _, h, hr, hs, _, _ => by
    simp only [planOk, beq_iff_eq] at hp
    exact ⟨Jx_of hs, hp, hK _ _ _ h hr⟩
  | .op i wr f d pl, l, act, ext, F, w, a, hls, hp, hd, h, hr, hs, hcov, hse => by
    simp only [planOk, Bool.and_eq_true, List.contains_eq_mem, decide_eq_true_eq] at hp
    obtain ⟨⟨⟨⟨hdrop, hready⟩, hwl⟩, hkind⟩, hp⟩ := hp
    simp only [exD] at h
    cases ho : all[i]? with
    | none => simp only [ho] at h
    | some o =>
      simp only [ho] at h hkind
      have hoi : all.toArray[i]? = some o := by simpa using ho
      have hilt := lt_of_get ho
      have hdst := hall o (List.mem_of_getElem? ho)
      have hd' := hd.set hready
      have hls' : (l.setIfInBounds i true).size = all.length := by simpa using hls
      have hselp := Region.noSelect_spec hsel
      have hcov' : Cov msk act ext pl := fun c hc => (hcov c hc).imp id fun h k hk => h k (by simp only [Plan.ws]; split <;> simp [hk])
      -- an operation that yields in every world of a class, taken first
      have first : ∀ (C : World → Prop) (act' : List (Nat × (World → Prop))) (ext' : Ext) (v : Value), wr = false →
          (∀ l w, l.size = all.length → Down all.toArray l → l.getD i false = false → Jx msk wl act' (l.setIfInBounds i true) w → Jx msk wl act l w ∧ C w) → (∀ l w, Jx msk wl act' l w → l.getD i false = true → Jx msk wl act l w) →
          YC P all.toArray C o v a → exD P all pl ext' (put F o.dst v) w K → (∀ c ∈ act', c.2 w) → Cov msk act' ext' pl → Stb ext' w → wpJ P all.toArray (Jx msk wl act) Q (pl.len + 1) l a w := by
        intro C act' ext' v hop hJ hJ2 hy hx hs' hc' hse'
        rw [if_pos hop] at hkind
        simp only [Bool.and_eq_true] at hkind
        exact wpJ_first hoi hselp hJ hJ2 pl.len l a w (Region.free_spec hoi hkind.1.2) hls hd hready hy
          (exD_sound ha hsel hall hK pl _ act' ext' _ w _ hls' hp hd' hx (hr.put (dok_spec hdst) v) hs' hc' hse')
      have hnw : wr = false → i ∉ wl := fun e => by subst e; simpa using hwl
      have hw1 : wr = true → i ∈ wl := fun e => by subst e; simpa using hwl
      have same : ∀ l w, wr = false → Jx msk wl act (l.setIfInBounds i true) w → Jx msk wl act l w := by
        intro l w hop hj c hc hk
        refine hj c hc fun k hk' hkw => ?_
        by_cases e : i = k
        · subst e; exact absurd hkw (hnw hop)
        · rw [getD_set_ne false e] at hk'; exact hk k hk' hkw
      have writer : wr = true → wpOp P all.toArray Q0 i (fun a' w' => ∃ F', Rep n ds F' a' ∧ Stb (dropE d ext) w' ∧ exD P all pl (dropE d ext) F' w' K) a w → wpJ P all.toArray (Jx msk wl act) Q (pl.len + 1) l a w := by
        intro hop h
        rw [if_neg (by simp [hop])] at hkind
        have hone := eq_of_beq hkind
        refine ⟨Jx_of hs, fun he => (by rw [hone] at he; cases he), fun j hj => ?_⟩
        rw [hone] at hj
        obtain rfl : j = i := by simpa using hj
        refine wpOp_mono (fun a' w' ⟨F', hr', hst, hx⟩ => ?_) h
        have hstm := Stb_mem hst
        have kept : ∀ c, c ∈ ext → (!An msk c.1 j) = true → c ∈ dropE d ext := fun c h1 h2 => dropE_mem h1 fun h3 => by
          have := List.all_eq_true.1 hdrop c.1 h3
          simp [this] at h2
        have hrec := exD_sound ha hsel hall hK pl _ (act.filter fun c => !An msk c.1 j) (dropE d ext) F' w' a' hls' hp hd' hx hr' (fun c hc => by
          rw [List.mem_filter] at hc
          rcases hcov c hc.1 with h1 | h1
          · exact hstm _ (kept c h1 hc.2)
          · have h2 := h1 j (by simp [Plan.ws, hop])
            simp [h2] at hc) (fun c hc => by
          rw [List.mem_filter] at hc
          exact (hcov' c hc.1).imp (fun h1 => kept c h1 hc.2) id) hst
        refine wpJ_mono _ _ _ _ (fun l' w'' hsub hj c hc hcond => ?_) hrec
        have hil : j < l.size := (ready_un hready).2
        have hjl : l'.getD j false = true := hsub.2 j (by simp [hil])
        have hnA := hcond j hjl (hw1 hop)
        exact hj c (by rw [List.mem_filter]; exact ⟨hc, by simp [hnA]⟩) hcond
      have go : Region.wanted o (yielded all.toArray a.tmps) = true → (match kd wr o with
        | 0 => pv P o F fun v => exD P all pl ext (put F o.dst v) w K
        | 1 => (match o.op with
          | .load t x => (match ev F x with
            | .pointer (some ⟨b, q, none⟩) => (match lv P t b q w with
              | some v => exD P all pl (pushE f (i, fun w' => lv P t b q w' = some v) ext) (put F o.dst v) w K
              | none => False)
            | _ => False)
          | _ => False)
        | _ => ex P o F w (fun v w' => Stb (dropE d ext) w' ∧ exD P all pl (dropE d ext) (put F o.dst v) w' K) (fun _ _ => False)) → wpJ P all.toArray (Jx msk wl act) Q (pl.len + 1) l a w := by
        intro hw h
        split at h
        · rename_i hk
          have hwr : wr = false := by cases wr with | false => rfl | true => cases hk
          obtain ⟨v, hv, hx⟩ := pv_run h
          exact first (fun _ => True) act ext v hwr (fun l w _ _ _ hj => ⟨same l w hwr hj, trivial⟩) (fun _ _ h _ => h) (.inl ⟨hw, fun w _ => by rw [hr.ev]; exact hv w⟩) hx hs hcov' hse
        · rename_i hk
          have hwr : wr = false := by cases wr with | false => rfl | true => cases hk
          have hk1 : opk o = 1 := by subst hwr; exact hk
          split at h
          · rename_i t x hop
            split at h
            · rename_i b q hxx
              split at h
              · rename_i v hv
                have hyc : YC P all.toArray (fun w' => lv P t b q w' = some v) o v a := .inl ⟨hw, fun w' hw' => by rw [hr.ev]; exact lv_run hop hxx hw'⟩
                refine first (fun w' => lv P t b q w' = some v) ((i, fun w' => lv P t b q w' = some v) :: act) _ v hwr ?_ ?_ hyc h ?_ ?_ ?_
                · intro l w hsz hdl hl hj
                  refine ⟨same l w hwr fun c hc => hj c (by simp [hc]), ?_⟩
                  refine hj (i, fun w' => lv P t b q w' = some v) (by simp) fun k hk' hkw => ?_
                  by_cases e : i = k
                  · subst e; exact absurd hkw (hnw hwr)
                  · rw [getD_set_ne false e] at hk'
                    by_cases hkl : k < all.length
                    · exact an_down ha hdl hilt hl (k + 1) k (by omega) hkl hk'
                    · simp [Array.getElem?_eq_none (by omega : l.size ≤ k)] at hk'
                · intro l w hj _ c hc
                  exact hj c (by simp [hc])
                · intro c hc
                  rcases List.mem_cons.1 hc with rfl | hc
                  · exact hv
                  · exact hs c hc
                · intro c hc
                  rcases List.mem_cons.1 hc with rfl | hc
                  · rw [if_pos hwr] at hkind
                    simp only [Bool.and_eq_true, Bool.or_eq_true, decide_eq_true_eq] at hkind
                    rcases hkind.2 with (h1 | h1) | h1
                    · left; subst h1; simp [pushE]
                    · omega
                    · right
                      intro k hk
                      exact List.all_eq_true.1 h1 k hk
                  · refine (hcov' c hc).imp (fun h9 => ?_) id
                    cases f
                    · exact h9
                    · simp [pushE, h9]
                · cases f
                  · exact hse
                  · exact ⟨hv, hse⟩
              · exact h.elim
            · exact h.elim
          · exact h.elim
        · rename_i h0 h1
          have hwr : wr = true := by
            cases wr with
            | true => rfl
            | false =>
              rw [if_pos rfl] at hkind
              simp only [Bool.and_eq_true, decide_eq_true_eq] at hkind
              have : opk o = 0 ∨ opk o = 1 := by omega
              rcases this with e | e
              · exact absurd e h0
              · exact absurd e h1
          refine writer hwr ?_
          unfold wpOp
          simp only [hoi]
          rw [if_pos hw]
          exact .inl ((ex_OpV h).sound hr.ev (fun v w' hv => ⟨_, hr.put (dok_spec hdst) v, hv⟩) (fun _ _ hx => hx.elim))
      have skip : Region.wanted o (yielded all.toArray a.tmps) = false → exD P all pl (selE (!wr) ext (dropE d ext)) (put F o.dst undef) w K → wpJ P all.toArray (Jx msk wl act) Q (pl.len + 1) l a w := by
        intro hwf hx
        cases hop : wr with
        | false =>
          rw [hop] at hx
          exact first (fun _ => True) act ext undef hop (fun l w _ _ _ hj => ⟨same l w hop hj, trivial⟩) (fun _ _ h _ => h) (.inr ⟨hwf, rfl⟩) hx hs hcov' hse
        | true =>
          rw [hop] at hx
          refine writer hop ?_
          unfold wpOp
          simp only [hoi, hwf, Bool.false_eq_true, if_false]
          exact ⟨_, hr.put (dok_spec hdst) undef, Stb_of fun c hc => Stb_mem hse c (mem_dropE hc), hx⟩
      split at h
      · rename_i hg; exact go (by simp [Region.wanted, hg]) h
      · rename_i j want hg
        split at h
        · rename_i b hb
          have hwg := wanted_gv hr hg hb hall
          by_cases e : b = want
          · exact go (by rw [hwg]; simp [e]) (h.1 e)
          · exact skip (by rw [hwg]; simp [e]) (h.2 (bne_not e))
        · rename_i vs hb
          exact skip (wanted_gv0 hr hg hb hall) h
        · exact h.elim
  | .two i j d e r s, l, act, ext, F, w, a, hls, hp, hd, h, hr, hs, hcov, hse => by
    simp only [planOk, Bool.and_eq_true, List.contains_eq_mem, decide_eq_true_eq] at hp
    obtain ⟨⟨⟨⟨⟨⟨⟨⟨hdrop, hdrop'⟩, hready⟩, hwi⟩, hwj⟩, hlen⟩, hg⟩, hp⟩, hp'⟩ := hp
    simp only [exD] at h
    cases ho : all[i]? with
    | none => simp only [ho] at h
    | some o =>
    cases ho' : all[j]? with
    | none => simp only [ho, ho'] at h
    | some o' =>
    simp only [ho, ho'] at h hg
    rw [Bool.and_eq_true] at hg
    have hg1 := Option.isNone_iff_eq_none.1 hg.1
    have hg2 := Option.isNone_iff_eq_none.1 hg.2
    have hrd := eq_of_beq hready
    have hl := eq_of_beq hlen
    have branch : ∀ (k : Nat) (o : Oper) (d : List Nat) (pl : Plan), all[k]? = some o → o.guard = none → k ∈ Region.ready .any all.toArray l → k ∈ wl → d.all (fun j => An msk j k) = true → planOk all msk wl pl (l.setIfInBounds k true) = true →
        k ∈ (Plan.two i j d e r s).ws → (∀ m ∈ pl.ws, m ∈ (Plan.two i j d e r s).ws) →
        ex P o F w (fun v w' => Stb (dropE d ext) w' ∧ exD P all pl (dropE d ext) (put F o.dst v) w' K) (fun _ _ => False) → (∀ (l : Array Bool) (act : List (Nat × (World → Prop))) (ext : Ext) (F : Fr) (w : World) (a : Act), l.size = all.length → planOk all msk wl pl l = true → Down all.toArray l → exD P all pl ext F w K → Rep n ds F a → (∀ c ∈ act, c.2 w) → Cov msk act ext pl → Stb ext w → wpJ P all.toArray (Jx msk wl act) Q pl.len l a w) →
        wpOp P all.toArray Q0 k (fun a' w' => wpJ P all.toArray (Jx msk wl act) Q pl.len (l.setIfInBounds k true) a' w') a w := by
      intro k o d pl ho hgn hrk hkw hdrop hp hk1 hk2 h ih
      have hoi : all.toArray[k]? = some o := by simpa using ho
      have hdst := hall o (List.mem_of_getElem? ho)
      have hls' : (l.setIfInBounds k true).size = all.length := by simpa using hls
      have hop : wpOp P all.toArray Q0 k (fun a' w' => ∃ F', Rep n ds F' a' ∧ Stb (dropE d ext) w' ∧ exD P all pl (dropE d ext) F' w' K) a w := by
        unfold wpOp
        simp only [hoi]
        rw [if_pos (by simp [Region.wanted, hgn])]
        exact .inl ((ex_OpV h).sound hr.ev (fun v w' hv => ⟨_, hr.put (dok_spec hdst) v, hv⟩) (fun _ _ hx => hx.elim))
      refine wpOp_mono (fun a' w' ⟨F', hr', hst, hx⟩ => ?_) hop
      have hstm := Stb_mem hst
      have kept : ∀ c, c ∈ ext → (!An msk c.1 k) = true → c ∈ dropE d ext := fun c h1 h2 => dropE_mem h1 fun h3 => by
        have := List.all_eq_true.1 hdrop c.1 h3
        simp [this] at h2
      have hrec := ih _ (act.filter fun c => !An msk c.1 k) (dropE d ext) F' w' a' hls' hp (hd.set hrk) hx hr' (fun c hc => by
        rw [List.mem_filter] at hc
        rcases hcov c hc.1 with h1 | h1
        · exact hstm _ (kept c h1 hc.2)
        · have h2 := h1 k hk1
          simp [h2] at hc) (fun c hc => by
        rw [List.mem_filter] at hc
        exact (hcov c hc.1).imp (fun h1 => kept c h1 hc.2) (fun h m hm => h m (hk2 m hm))) hst
      refine wpJ_mono _ _ _ _ (fun l' w'' hsub hj c hc hcond => ?_) hrec
      have hil := (ready_un hrk).2
      have hjl : l'.getD k false = true := hsub.2 k (by simp [hil])
      have hnA := hcond k hjl hkw
      exact hj c (by rw [List.mem_filter]; exact ⟨hc, by simp [hnA]⟩) hcond
    refine ⟨Jx_of hs, fun he => (by rw [hrd] at he; cases he), fun k hk => ?_⟩
    rw [hrd] at hk
    rcases List.mem_cons.1 hk with rfl | hk
    · exact branch k o d r ho hg1 (by rw [hrd]; simp) hwi hdrop hp (by simp [Plan.ws]) (fun m hm => by simp [Plan.ws, hm]) h.1 (exD_sound ha hsel hall hK r)
    · obtain rfl : k = j := by simpa using hk
      show wpOp P all.toArray Q0 k (wpJ P all.toArray (Jx msk wl act) Q r.len (l.setIfInBounds k true)) a w
      rw [hl]
      exact branch k o' e s ho' hg2 (by rw [hrd]; simp) hwj hdrop' hp' (by simp [Plan.ws]) (fun m hm => by simp [Plan.ws, hm]) h.2 (exD_sound ha hsel hall hK s)

theorem Wp.draw {id : Nat} {l : List Oper} {F : Fr} {w : World} {Q : Exit → Fr → World → Prop} (msk wl : List Nat) (pl : Plan) (hm : P.follows .mixedOrders = true) (hB : drawOk n l msk wl pl = true)
    (h : exD P l pl [] F w.drew (Q .normal)) : Wp P n ds (.region id l.toArray true) F w Q := by
  simp only [drawOk, Bool.and_eq_true, beq_iff_eq] at hB
  obtain ⟨⟨⟨⟨h1, h2⟩, h3⟩, h4⟩, h5⟩ := hB
  intro a hr
  have hd : ∀ o ∈ l, dok n o.dst := by
    intro o ho
    have := List.all_eq_true.1 h1 o ho
    unfold dok
    split <;> simp_all
  refine wp_region_any hm ?_
  have hz : ∀ j, (Array.replicate l.length false).getD j false = false := by intro j; simp [Array.getElem?_replicate]; split <;> rfl
  have := exD_sound (n := n) (ds := ds) (Q := fun a w => ∃ F', Rep n ds F' a ∧ Q .normal F' w) h3 h2 hd (fun F' a' w' k r => ⟨F', r, k⟩) pl (Array.replicate l.length false) [] [] F w.drew a (by simp) h5
    (fun j o hj => by rw [hz] at hj; cases hj) h hr (fun c hc => by cases hc) (fun c hc => by cases hc) trivial
  rw [h4] at this
  have h6 := wpJ_any (Q' := fun e a w => ∃ F', Rep n ds F' a ∧ Q e F' w) (fun a w q => q) _ _ _ _ this
  simpa using h6
end

theorem pushE_true (c : Nat × (World → Prop)) (e : Ext) : pushE true c e = c :: e := rfl
theorem pushE_false (c : Nat × (World → Prop)) (e : Ext) : pushE false c e = e := rfl
theorem selE_true (x y : Ext) : selE true x y = x := rfl
theorem selE_false (x y : Ext) : selE false x y = y := rfl
theorem Stb_nil (w : World) : Stb [] w = True := rfl
theorem Stb_cons (c : Nat × (World → Prop)) (l : Ext) (w : World) : Stb (c :: l) w = (c.2 w ∧ Stb l w) := rfl
theorem rmE_nil (d : Nat) : rmE d [] = [] := rfl
theorem rmE_cons (d i : Nat) (c : World → Prop) (l : Ext) : rmE d ((i, c) :: l) = if i = d then rmE d l else (i, c) :: rmE d l := rfl
theorem dropE_nil (e : Ext) : dropE [] e = e := rfl
theorem dropE_cons (d : Nat) (ds : List Nat) (e : Ext) : dropE (d :: ds) e = dropE ds (rmE d e) := rfl
attribute [push_cast] pushE_true pushE_false selE_true selE_false exD opk kd pv lv Stb_nil Stb_cons dropE_nil dropE_cons rmE_nil rmE_cons
end Go.VC
