/- The machine's maker: put. -/
import Derived.Test.YtddichibegppjaaZ2d4fdec
import Derived.Test.YtddichibegppjaaZc13ec55
import Derived.Test.YtddichibegppjaaVs
import Derived.Test.YtddichibegppjaaVp
import Derived.Test.YtddichibegppjaaPc
import Derived.Test.YtddichibegppjaaZ948b658
import Derived.Test.YtddichibegppjaaZ8180551
import Derived.Test.YtddichibegppjaaZf6ded28
set_option linter.unusedSimpArgs false
set_option linter.unusedVariables false
set_option maxRecDepth 100000
set_option maxHeartbeats 8000000
attribute [local irreducible] Go.VC.OpV Go.VC.CallV Go.VC.Wp Go.VC.post
namespace Go.Proofs.Ytddichibegppjaa
open Go Go.VC

/-- Nothing of a tree is touched. -/
def K33 (w w' : World) : Prop := ∀ b cs, Blk w b 33 cs → Blk w' b 33 cs
theorem K33.refl (w : World) : K33 w w := fun _ _ h => h
theorem K33.trans {a b c : World} (h : K33 a b) (k : K33 b c) : K33 a c := fun q cs hq => k q cs (h q cs hq)
theorem K33.of {w w' : World} (h : Kp (fun _ => False) w w') : K33 w w' := fun _ _ hb => h.Blk hb id

section
variable {w w1 w2 : World} {m : Nat} {ms : List St4}

theorem put4_any (h : Mkr w m ms w1) (hn : ms.length ≤ 1000000000) (st : St4) (q : Option Addr) (hq : st.kind = 0 → ∃ b, q = some ⟨b, 0, none⟩ ∧ w.heap.size ≤ b ∧ st.set.length = 256 ∧ Blk w1 b 121 (bools st.set)) :
    Calls Try.prog 58 #[.pointer (some ⟨m, 0, none⟩), .agg #[.int .i64 st.kind, .pointer q, .int .i64 st.a, .int .i64 st.b]] w1 fun e w' => e = .returned (.int .i64 ms.length) ∧ Mkr w m (ms ++ [st]) w' ∧ K33 w1 w' := by
  obtain ⟨N, h⟩ := h
  obtain ⟨A, cap, xs, hb, hown, hsts, hA⟩ := h.ex
  have hkp := h.kp
  have hm := h.hm
  have hN := h.hN
  refine enter (n := 21) (args := [.pointer (some ⟨m, 0, none⟩), .agg #[.int .i64 st.kind, .pointer q, .int .i64 st.a, .int .i64 st.b]]) Try.func58 rfl rfl rfl (by simp) ?_
  refine Wp.seq (Wp.region rfl ?_)
  simp -dsimp (maxSteps := 2000000) (disch := first | omega | (simp only [qZ] <;> omega) | fail) only [push_cast, ↓qP, ↓reduceIte, seval]
  have hlt := hb.lt
  have hne : bk A ≠ some m := fun e => (hA m e).2 rfl
  refine Wp.seq (Wp.draw [0, 0, 2, 6, 14, 0, 32, 126, 255, 511, 1023] [6, 7, 10] (.op 0 false false [] <| .op 1 false false [] <| .op 2 false false [] <| .op 3 false false [] <| .op 4 false true [] <| .op 5 false false [] <| .op 6 true false [] <| .op 7 true false [4] <| .op 8 false false [] <| .op 9 false false [] <| .op 10 true false [] <| .nil) mixed (by kernel_rfl) ?_)
  simp -dsimp (maxSteps := 2000000) (disch := first | omega | (simp only [qZ] <;> omega) | fail) only [push_cast, ↓qP, ↓reduceIte, seval, hb.rdc]
  refine V_append (m := 1) _ _ _ rfl mk_98 rfl ((hown.alloc _).drew.alloc _) rfl [.int .i64 st.kind, .pointer q, .int .i64 st.a, .int .i64 st.b] ?r rfl (by omega) (by omega) ?k
  case r => simp -dsimp (maxSteps := 2000000) (disch := first | omega | (simp only [qZ] <;> omega) | fail) only [push_cast, ↓qP, ↓reduceIte, seval]
  case k =>
    intro A' cap' w' hown' hgrow hat
    have hg1 := hgrow.size
    simp at hg1
    have hb' : Blk w' m 100 [.slice A ms.length cap] := ((hb.alloc _).drew.alloc _).keep (hgrow.block m (by simp; omega) (fun e => hne e.symm))
    have hlt' := hb'.lt
    have hkw : Kp (fun b => bk A = some b) w1 w' := ((((Kp.refl (fun b => bk A = some b) w1).alloc _).drew).alloc _).grown hgrow (fun k hk _ => hk)
    refine Sm.out ?_
    repeat (first | refine qS ?_ | refine qB ?_ | refine qT rfl ?_ | refine qF rfl ?_ | ((first | refine qR rfl ?_ | refine qK ?_ | refine qE ?_ | refine qW ?_ | refine qM ?_); try simp -dsimp (maxSteps := 2000000) (disch := first | omega | (simp only [qZ] <;> omega) | fail) only [push_cast, ↓qP, ↓reduceIte, seval, hb'.rdc, hb'.fz]) | (refine qA ?_ ?_; (first | omega | (simp only [qL]; omega) | (simp only [qD] at *; omega))))
    have hbn := hb'.set 0 (.slice A' (ms.length + 1) cap')
    have hltn := hbn.lt
    repeat (first | refine qS ?_ | refine qB ?_ | refine qT rfl ?_ | refine qF rfl ?_ | ((first | refine qR rfl ?_ | refine qK ?_ | refine qE ?_ | refine qW ?_ | refine qM ?_); try simp -dsimp (maxSteps := 2000000) (disch := first | omega | (simp only [qZ] <;> omega) | fail) only [push_cast, ↓qP, ↓reduceIte, seval, hbn.rdc]) | (refine qA ?_ ?_; (first | omega | (simp only [qL]; omega) | (simp only [qD] at *; omega))))
    have hne' : bk A' ≠ some m := by
      rcases hat with h | h <;> rw [h]
      · exact hne
      · simp; omega
    have hkn : Kp (fun b => bk A = some b ∨ b = m) w1 (w'.setCell ⟨m, 0, none⟩ (.slice A' (ms.length + 1) cap')) := (hkw.mono (fun _ _ => .inl)).setCell (p := ⟨m, 0, none⟩) (fun _ => .inr rfl) _
    have hsz : (w'.setCell ⟨m, 0, none⟩ (.slice A' (ms.length + 1) cap')).heap.size = w'.heap.size := by simp
    have hnot : ∀ b, b < w1.heap.size → bk A ≠ some b → bk A' ≠ some b := by
      intro b hb1 hb2
      rcases hat with h | h <;> rw [h]
      · exact hb2
      · simp; omega
    have hstk : IsSt (w'.setCell ⟨m, 0, none⟩ (.slice A' (ms.length + 1) cap')) (fun b => w.heap.size ≤ b ∧ b < (w'.setCell ⟨m, 0, none⟩ (.slice A' (ms.length + 1) cap')).heap.size ∧ b ≠ m ∧ bk A' ≠ some b) st [.int .i64 st.kind, .pointer q, .int .i64 st.a, .int .i64 st.b] := by
      refine ⟨q, rfl, fun h0 => ?_⟩
      obtain ⟨b, h1, h2, h6, h7⟩ := hq h0
      have h8 := hown.ne_blk h7 (by decide)
      have h4 := h7.ne hb (by decide)
      have h3 := h7.lt
      exact ⟨b, h1, ⟨h2, by omega, h4, hnot b h3 h8⟩, h6, by omega, fun j hj => by rw [hkn.rdc h3 (fun e => e.elim h8 h4), h7.rdc]; exact bools_get _ _ hj⟩
    refine Ret.mk ⟨by simp, ⟨(w'.setCell ⟨m, 0, none⟩ (.slice A' (ms.length + 1) cap')).heap.size, ⟨A', cap', _, by rw [List.length_append]; exact hbn, by rw [List.length_append]; exact hown'.far (p := ⟨m, 0, none⟩) hne' _, ?_, ?_⟩, ?_, hm, Nat.le_refl _⟩, fun b cs hb3 => hkn.Blk hb3 (fun e => e.elim (hown.ne_blk hb3 (by decide)) (hb3.ne hb (by decide)))⟩
    · exact IsSts.snoc _ _ (hsts.Kp hkn (fun b hb e => e.elim hb.2.2.2 hb.2.2.1) (fun b hb => ⟨hb.1, by have := hb.2.1; omega, hb.2.2.1, hnot b (by have := hb.2.1; omega) hb.2.2.2⟩)) hstk
    · intro g hg
      refine ⟨?_, fun e => hne' (e ▸ hg)⟩
      rcases hat with h | h
      · rw [h] at hg; exact (hA g hg).1
      · rw [h] at hg; have := hkp.size; simp at hg; omega
    · exact hkp.trans' hkn (fun i hi e => by rcases e with e | e; exact absurd hi (by have := hA i e; omega); omega)
end
end Go.Proofs.Ytddichibegppjaa

/- The machine's maker: tree, repeat. -/
namespace Go.Proofs.Ytddichibegppjaa
open Go Go.VC

/-- What tree must do. -/
def CT (w : World) (m : Nat) (e : Re) : Prop := ∀ w1 ms next cs (D : Nat → Prop), Mkr w m ms w1 → next < ms.length → Ws ms → ms.length + nst e ≤ 1000000000 → IsRe w D e cs →
    Calls Try.prog 59 #[.pointer (some ⟨m, 0, none⟩), .agg cs.toArray, .int .i64 next] w1 fun e' w' => e' = .returned (.int .i64 (tree4 e next ms).2) ∧ Mkr w m (tree4 e next ms).1 w' ∧ K33 w1 w'

theorem bits_len (set : List UInt8) : (bits set).length = 256 := by simp [bits]
theorem bits_nil : bits [] = List.replicate 256 false := by
  unfold bits; rw [show (fun c : Nat => ([] : List UInt8).contains (UInt8.ofNat c)) = fun _ => false from by funext c; rfl, List.map_const']; simp only [List.length_range]
theorem bits_snoc (set : List UInt8) (c : UInt8) : bits (set ++ [c]) = (bits set).set c.toNat true := by
  refine list_ext_getD (by simp [bits]) fun j hj => ?_
  rw [bits_len] at hj
  have hc := c.toNat_lt
  by_cases e : j = c.toNat
  · subst e
    simp [bits, List.getD_eq_getElem?_getD, List.getElem?_set, hc]
  · have h1 : ((bits set).set c.toNat true).getD j false = (bits set).getD j false := by
      simp [List.getD_eq_getElem?_getD, List.getElem?_set, Ne.symm e]
    rw [h1]
    simp only [bits, List.getD_eq_getElem?_getD, List.getElem?_map, List.getElem?_range hj, Option.map_some, Option.getD_some]
    have h2 : UInt8.ofNat j ≠ c := by intro h; apply e; rw [← h]; simp; omega
    rw [Bool.eq_iff_iff]
    simp [h2]
theorem alt4_cons (k : Re) (ks : List Re) (hk : ks ≠ []) (next : Nat) (ms : List St4) : alt4 (k :: ks) next ms = ((tree4 k next (alt4 ks next ms).1).1 ++ [⟨1, [], (tree4 k next (alt4 ks next ms).1).2, (alt4 ks next ms).2⟩], (tree4 k next (alt4 ks next ms).1).1.length) := by
  cases ks with
  | nil => exact absurd rfl hk
  | cons k2 ks => simp only [alt4]
theorem nsts_append : ∀ (a b : List Re), nsts (a ++ b) = nsts a + nsts b
  | [], b => by simp [nsts]
  | k :: a, b => by simp [nsts, nsts_append a b]; omega
theorem Goods_drop {ks : List Re} (h : Goods ks) (n : Nat) : Goods (ks.drop n) := by
  induction ks generalizing n with
  | nil => simpa using h
  | cons k ks ih =>
    cases n with
    | zero => simpa using h
    | succ n => simp only [Goods, List.drop_succ_cons] at h ⊢; exact ih h.2 n
theorem nsts_mem : ∀ {es : List Re} {e : Re}, e ∈ es → nst e ≤ nsts es
  | k :: es, e, h => by
    simp only [nsts]
    rcases List.mem_cons.1 h with rfl | h
    · omega
    · have := nsts_mem h; omega
theorem nsts_drop (ks : List Re) (n : Nat) : nsts (ks.drop n) ≤ nsts ks := by
  have := nsts_append (ks.take n) (ks.drop n)
  rw [List.take_append_drop] at this; omega

section
variable {w : World} {m : Nat}

theorem tree4_any (l0 : List UInt8) (hrep : ∀ set kids lo hi, Good (.node opRep set kids lo hi) → (∀ k ∈ kids, CT w m k) → wt (.node opRep set kids lo hi) ≤ 1000000000 → ∀ w1 ms next cs (D : Nat → Prop), Mkr w m ms w1 → next < ms.length → Ws ms → ms.length + nst (.node opRep set kids lo hi) ≤ 1000000000 → IsRe w D (.node opRep set kids lo hi) cs →
    Calls Try.prog 75 #[.pointer (some ⟨m, 0, none⟩), .agg cs.toArray, .int .i64 next] w1 fun e' w' => e' = .returned (.int .i64 (tree4 (.node opRep set kids lo hi) next ms).2) ∧ Mkr w m (tree4 (.node opRep set kids lo hi) next ms).1 w' ∧ K33 w1 w') :
    ∀ e : Re, Good e → wt e ≤ 1000000000 → CT w m e := by
  refine Re.ind fun op set kids lo hi ih hg hwt w1 ms next cs D hM hn hw hs h => ?_
  have hih : ∀ k ∈ kids, CT w m k := fun k hk => ih k hk (Goods_mem hg.kids hk) (by simp only [wt] at hwt; have := wts_mem hk; omega)
  clear ih
  obtain ⟨A, c, rfl⟩ := h.cells
  have hwt' := hwt
  simp only [wt] at hwt
  have hkl := wts_len kids
  have hgk := hg.kids
  have hgs := hg.set
  have hgg := hg
  simp only [Good] at hgg
  replace hgg : Hide _ := ⟨hgg⟩
  replace hgs : Hide _ := ⟨hgs⟩
  refine enter (n := 105) (args := [.pointer (some ⟨m, 0, none⟩), .agg #[.string (B op), .string (B set), .slice A kids.length c, .int .i64 lo, .int .i64 hi], .int .i64 (next : Int)]) Try.func59 rfl rfl rfl (by simp) ?_
  refine Wp.seq (Wp.region rfl ?_)
  simp -dsimp (maxSteps := 2000000) (disch := first | omega | (simp only [qZ] <;> omega) | fail) only [push_cast, ↓qP, ↓reduceIte, seval]
  obtain ⟨p, hp⟩ : ∃ p, p = w1.heap.size := ⟨_, rfl⟩
  rw [← hp]
  refine Wp.gen (A := fun W => Mkr w m ms W ∧ K33 w1 W ∧ Blk W p 33 [.string (B op), .string (B set), .slice A kids.length c, .int .i64 lo, .int .i64 hi]) ⟨hM.keep0 ((Kp.refl _ w1).alloc _), K33.of ((Kp.refl _ w1).alloc _), by rw [hp]; exact Blk.new _ _ _⟩ ?_
  have hpm : p ≠ m := by have := hM.lt; omega
  have hpw : w.heap.size ≤ p := by have := hM.kp.size; omega
  clear hM hp
  rintro w2 ⟨hM, hk1, hb1⟩
  have hltp := hb1.lt
  obtain ⟨n1, n2, n3, n4, n5, n6, n7, n8, n9, n10, n11, n12, n13, n14, n15⟩ := op_ne
  rcases hgg.out with ⟨rfl, hk, _⟩ | ⟨rfl, hk⟩ | ⟨rfl, hk⟩ | ⟨rfl, hk⟩ | ⟨rfl, hk, _⟩ | ⟨rfl, hk⟩
  · obtain ⟨e1, e2, e3, e4, e5, e6⟩ := ops_set
    have hsl := hgs.out rfl
    obtain ⟨N, hM⟩ := hM
    have hNq := hM.hN
    have et : tree4 (.node opSet set kids lo hi) next ms = (ms ++ [⟨0, bits set, next, 0⟩], ms.length) := by simp only [tree4, n1, n2, n3, n4, n5, if_false]
    have en : nst (.node opSet set kids lo hi) = 1 := by simp only [nst, n1, n2, n3, n4, n5, if_false]
    rw [en] at hs
    rw [et]
    obtain ⟨q, hq⟩ : ∃ q, q = w2.heap.size := ⟨_, rfl⟩
    have hqw : w.heap.size ≤ q := by omega
    rw [← hq] at hNq
    repeat (first | refine qS ?_ | refine qB ?_ | refine qT rfl ?_ | refine qF rfl ?_ | ((first | refine qR rfl ?_ | refine qK ?_ | refine qE ?_ | refine qW ?_ | refine qM ?_); try simp -dsimp (maxSteps := 2000000) (disch := first | omega | (simp only [qZ] <;> omega) | fail) only [push_cast, ↓qP, ↓reduceIte, seval, hb1.rdc, e2, e3, e6, e4, e5]) | (refine qA ?_ ?_; (first | omega | (simp only [qL]; omega) | (simp only [qD] at *; omega))))
    rw [← hq]
    refine OpV.gen (A := fun W => MkrN w m ms N W ∧ K33 w1 W ∧ Blk W q 121 (bools (bits []))) ⟨hM.keep0 ((Kp.refl _ w2).alloc _), hk1.trans (K33.of ((Kp.refl _ w2).alloc _)), ?_⟩ ?_
    · have := Blk.new w2 121 (List.replicate 256 (.bool false))
      rw [← hq] at this
      rw [bits_nil]
      simpa [bools] using this
    clear hM hk1 hb1 hltp hq
    rintro W ⟨hM, hk1, hq1⟩
    refine V_bytes 9 63 _ rfl se_63 ik_5 isStr_9 set rfl ?_
    intro cap W2 k2 hsz2 hr
    have hM2 := hM.keep0 k2
    have hk2 := hk1.trans (K33.of k2)
    have hq2 := k2.Blk hq1 id
    refine Sm.out ?_
    repeat (first | refine qS ?_ | refine qB ?_ | refine qT rfl ?_ | refine qF rfl ?_ | ((first | refine qR rfl ?_ | refine qK ?_ | refine qE ?_ | refine qW ?_ | refine qM ?_); try simp -dsimp (maxSteps := 2000000) (disch := first | omega | (simp only [qZ] <;> omega) | fail) only [push_cast, ↓qP, ↓reduceIte, seval]) | (refine qA ?_ ?_; (first | omega | (simp only [qL]; omega) | (simp only [qD] at *; omega))))
    obtain ⟨g, hg'⟩ : ∃ g, g = W.heap.size := ⟨_, rfl⟩
    rw [← hg'] at hr hsz2
    have hgq : g ≠ q := by have := hq1.lt; omega
    refine Wp.loop (α := Nat) (fun j F W3 => j ≤ set.length ∧ F 0 = .pointer (some ⟨m, 0, none⟩) ∧ F 2 = .int .i64 (next : Int) ∧ F 10 = .pointer (some ⟨q, 0, none⟩) ∧ F 89 = .slice (some ⟨g, 0, none⟩) set.length cap ∧ F 90 = .int .i64 (set.length : Int) ∧ F 91 = .int .i64 j ∧ MkrN w m ms N W3 ∧ K33 w1 W3 ∧ Blk W3 q 121 (bools (bits (set.take j))) ∧ g < W3.heap.size ∧ ∀ j (hj : j < set.length), rdc W3 g j = some (by8 set[j])) (fun j => set.length - j) 0
      ⟨Nat.zero_le _, by simp [upd, arg], by simp [upd, arg], by simp [upd], by simp [upd, hg'], by simp [upd], by simp [upd], hM2, hk2, by simpa using hq2, hsz2, hr⟩ ?_
    clear hM hk1 hq1 hM2 hk2 hq2 hsz2 hr k2 hg'
    rintro j F W3 ⟨hj, f0, f2, f10, f89, f90, f91, hM, hk1, hq1, hgl, hr⟩
    have hltq := hq1.lt
    rcases Nat.lt_or_ge j set.length with hlt | hge
    · have c1 : decide ((j : Int) < (set.length : Int)) = true := decide_eq_true (by omega)
      have r1 := hr j hlt
      have hc := set[j].toNat_lt
      have hcell : rdc W3 q set[j].toNat = some (.bool ((bits (set.take j)).getD set[j].toNat false)) := by rw [hq1.rdc]; exact bools_get _ _ (by rw [bits_len]; omega)
      have hset := hq1.set set[j].toNat (.bool true)
      rw [bools_set, ← bits_snoc, ← List.take_succ_eq_append_getElem hlt] at hset
      have hkq : Kp (· = q) W3 (W3.setCell ⟨q, set[j].toNat, none⟩ (.bool true)) := (Kp.refl (· = q) W3).setCell (p := ⟨q, set[j].toNat, none⟩) (fun _ => rfl) _
      unfold by8 at r1
      repeat (first | refine qS ?_ | refine qB ?_ | refine qT rfl ?_ | refine qF rfl ?_ | ((first | refine qR rfl ?_ | refine qK ?_ | refine qE ?_ | refine qW ?_ | refine qM ?_); try simp -dsimp (maxSteps := 2000000) (disch := first | omega | (simp only [qZ] <;> omega) | fail) only [push_cast, ↓qP, ↓reduceIte, seval, f0, f2, f10, f89, f90, f91, c1, r1, hcell, hq1.fz]) | (refine qA ?_ ?_; (first | omega | (simp only [qL]; omega) | (simp only [qD] at *; omega))))
      refine Again.mk (j + 1) ⟨by omega, by simp [upd, f0], by simp [upd, f2], by simp [upd, f10], by simp [upd, f89], by simp [upd, f90], by simp [upd], ?_, ?_, hset, by simpa using hgl, fun i hi => by rw [hkq.rdc hgl hgq]; exact hr i hi⟩ (by omega)
      · exact hM.far hq1 (by decide) (by decide) hNq hqw hkq
      · exact hk1.trans fun b cs hb => hkq.Blk hb (hb.ne hq1 (by decide))
    · obtain rfl : j = set.length := by omega
      have c1 : decide ((set.length : Int) < (set.length : Int)) = false := decide_eq_false (by omega)
      rw [List.take_length] at hq1
      repeat (first | refine qS ?_ | refine qB ?_ | refine qT rfl ?_ | refine qF rfl ?_ | ((first | refine qR rfl ?_ | refine qK ?_ | refine qE ?_ | refine qW ?_ | refine qM ?_); try simp -dsimp (maxSteps := 2000000) (disch := first | omega | (simp only [qZ] <;> omega) | fail) only [push_cast, ↓qP, ↓reduceIte, seval, f0, f2, f10, f89, f90, f91, c1]) | (refine qA ?_ ?_; (first | omega | (simp only [qL]; omega) | (simp only [qD] at *; omega))))
      refine CallV.of isCall_58 (put4_any ⟨N, hM⟩ (by omega) ⟨0, bits set, next, 0⟩ (some ⟨q, 0, none⟩) (fun _ => ⟨q, rfl, hqw, bits_len _, hq1⟩)) ?_
      rintro _ W4 ⟨rfl, hM2, hk2⟩
      refine Sm.out ?_
      repeat (first | refine qS ?_ | refine qB ?_ | refine qT rfl ?_ | refine qF rfl ?_ | ((first | refine qR rfl ?_ | refine qK ?_ | refine qE ?_ | refine qW ?_ | refine qM ?_); try simp -dsimp (maxSteps := 2000000) (disch := first | omega | (simp only [qZ] <;> omega) | fail) only [push_cast, ↓qP, ↓reduceIte, seval]) | (refine qA ?_ ?_; (first | omega | (simp only [qL]; omega) | (simp only [qD] at *; omega))))
      exact Ret.mk ⟨rfl, hM2, hk1.trans hk2⟩
  · obtain ⟨e1, e2, e3, e4, e5, e6⟩ := ops_bol
    have et : tree4 (.node opBol set kids lo hi) next ms = (ms ++ [⟨2, [], next, 0⟩], ms.length) := by simp only [tree4, if_true]
    rw [et]
    repeat (first | refine qS ?_ | refine qB ?_ | refine qT rfl ?_ | refine qF rfl ?_ | ((first | refine qR rfl ?_ | refine qK ?_ | refine qE ?_ | refine qW ?_ | refine qM ?_); try simp -dsimp (maxSteps := 2000000) (disch := first | omega | (simp only [qZ] <;> omega) | fail) only [push_cast, ↓qP, ↓reduceIte, seval, hb1.rdc, e2]) | (refine qA ?_ ?_; (first | omega | (simp only [qL]; omega) | (simp only [qD] at *; omega))))
    refine CallV.of isCall_58 (put4_any hM (by omega) ⟨2, [], next, 0⟩ none (fun h => by simp at h)) ?_
    rintro _ w3 ⟨rfl, hM2, hk2⟩
    refine Sm.out ?_
    repeat (first | refine qS ?_ | refine qB ?_ | refine qT rfl ?_ | refine qF rfl ?_ | ((first | refine qR rfl ?_ | refine qK ?_ | refine qE ?_ | refine qW ?_ | refine qM ?_); try simp -dsimp (maxSteps := 2000000) (disch := first | omega | (simp only [qZ] <;> omega) | fail) only [push_cast, ↓qP, ↓reduceIte, seval]) | (refine qA ?_ ?_; (first | omega | (simp only [qL]; omega) | (simp only [qD] at *; omega))))
    exact Ret.mk ⟨rfl, hM2, hk1.trans hk2⟩
  · obtain ⟨e1, e2, e3, e4, e5, e6⟩ := ops_eol
    have et : tree4 (.node opEol set kids lo hi) next ms = (ms ++ [⟨3, [], next, 0⟩], ms.length) := by simp only [tree4, Ne.symm n6, if_true, if_false]
    rw [et]
    repeat (first | refine qS ?_ | refine qB ?_ | refine qT rfl ?_ | refine qF rfl ?_ | ((first | refine qR rfl ?_ | refine qK ?_ | refine qE ?_ | refine qW ?_ | refine qM ?_); try simp -dsimp (maxSteps := 2000000) (disch := first | omega | (simp only [qZ] <;> omega) | fail) only [push_cast, ↓qP, ↓reduceIte, seval, hb1.rdc, e2, e3]) | (refine qA ?_ ?_; (first | omega | (simp only [qL]; omega) | (simp only [qD] at *; omega))))
    refine CallV.of isCall_58 (put4_any hM (by omega) ⟨3, [], next, 0⟩ none (fun h => by simp at h)) ?_
    rintro _ w3 ⟨rfl, hM2, hk2⟩
    refine Sm.out ?_
    repeat (first | refine qS ?_ | refine qB ?_ | refine qT rfl ?_ | refine qF rfl ?_ | ((first | refine qR rfl ?_ | refine qK ?_ | refine qE ?_ | refine qW ?_ | refine qM ?_); try simp -dsimp (maxSteps := 2000000) (disch := first | omega | (simp only [qZ] <;> omega) | fail) only [push_cast, ↓qP, ↓reduceIte, seval]) | (refine qA ?_ ?_; (first | omega | (simp only [qL]; omega) | (simp only [qD] at *; omega))))
    exact Ret.mk ⟨rfl, hM2, hk1.trans hk2⟩
  · obtain ⟨e1, e2, e3, e4, e5, e6⟩ := ops_cat
    have et : tree4 (.node opCat set kids lo hi) next ms = cat4 kids next ms := by simp only [tree4, Ne.symm n7, Ne.symm n10, if_true, if_false]
    have en : nst (.node opCat set kids lo hi) = nsts kids := by simp only [nst, Ne.symm n7, Ne.symm n10, if_true, if_false]
    rw [en] at hs
    rw [et]
    repeat (first | refine qS ?_ | refine qB ?_ | refine qT rfl ?_ | refine qF rfl ?_ | ((first | refine qR rfl ?_ | refine qK ?_ | refine qE ?_ | refine qW ?_ | refine qM ?_); try simp -dsimp (maxSteps := 2000000) (disch := first | omega | (simp only [qZ] <;> omega) | fail) only [push_cast, ↓qP, ↓reduceIte, seval, hb1.rdc, e2, e3, e6]) | (refine qA ?_ ?_; (first | omega | (simp only [qL]; omega) | (simp only [qD] at *; omega))))
    refine Wp.loop (α := Nat) (fun j F W => j ≤ kids.length ∧ F 0 = .pointer (some ⟨m, 0, none⟩) ∧ F 2 = .int .i64 ((cat4 (kids.drop j) next ms).2 : Int) ∧ F 4 = .pointer (some ⟨p, 0, none⟩) ∧ F 7 = .int .i64 ((j : Int) - 1) ∧ Blk W p 33 [.string (B opCat), .string (B set), .slice A kids.length c, .int .i64 lo, .int .i64 hi] ∧ Mkr w m (cat4 (kids.drop j) next ms).1 W ∧ K33 w1 W) (fun j => j) kids.length
      ⟨Nat.le_refl _, by simp [upd, arg], by simp [upd, arg, cat4], by simp [upd], by simp [upd], hb1, by simpa [cat4] using hM, hk1⟩ ?_
    clear hM hb1 hltp hk1
    rintro j F W ⟨hj, f0, f2, f4, f7, hb1, hM, hk1⟩
    have hltp := hb1.lt
    rcases Nat.eq_zero_or_pos j with h0 | h0
    · subst h0
      rw [List.drop_zero] at f2 hM
      have c1 : decide ((0 : Int) - 1 ≥ 0) = false := rfl
      repeat (first | refine qS ?_ | refine qB ?_ | refine qT rfl ?_ | refine qF rfl ?_ | ((first | refine qR rfl ?_ | refine qK ?_ | refine qE ?_ | refine qW ?_ | refine qM ?_); try simp -dsimp (maxSteps := 2000000) (disch := first | omega | (simp only [qZ] <;> omega) | fail) only [push_cast, ↓qP, ↓reduceIte, seval, f0, f2, f4, f7, c1]) | (refine qA ?_ ?_; (first | omega | (simp only [qL]; omega) | (simp only [qD] at *; omega))))
      exact Ret.mk ⟨rfl, hM, hk1⟩
    · obtain ⟨j, rfl⟩ : ∃ j', j = j' + 1 := ⟨j - 1, by omega⟩
      have hj1 : ((j + 1 : Nat) : Int) - 1 = j := by omega
      rw [hj1] at f7
      have hlt : j < kids.length := by omega
      have c1 : decide ((j : Int) ≥ 0) = true := decide_eq_true (by omega)
      have hget : kids[j]? = some kids[j] := List.getElem?_eq_getElem hlt
      obtain ⟨b, o, d0, d1, A1, m1, d2, lo1, hi1, rfl, hbl, hD, q0, q1, q2, q3, q4, hre, hre0⟩ := h.kid hM.kp hget
      have hmem : kids[j] ∈ kids := List.getElem_mem hlt
      have hdr : kids.drop j = kids[j] :: kids.drop (j + 1) := List.drop_eq_getElem_cons hlt
      obtain ⟨t1, t2, t3, t4, t5⟩ := cat_builds l0 (kids.drop (j + 1)) (Goods_drop hgk _) next ms hn hw
      have hn1 : nsts (kids.drop j) ≤ nsts kids := nsts_drop kids j
      rw [hdr] at hn1
      simp only [nsts] at hn1
      have hcat : cat4 (kids.drop j) next ms = tree4 kids[j] (cat4 (kids.drop (j + 1)) next ms).2 (cat4 (kids.drop (j + 1)) next ms).1 := by rw [hdr]; simp only [cat4]
      repeat (first | refine qS ?_ | refine qB ?_ | refine qT rfl ?_ | refine qF rfl ?_ | ((first | refine qR rfl ?_ | refine qK ?_ | refine qE ?_ | refine qW ?_ | refine qM ?_); try simp -dsimp (maxSteps := 2000000) (disch := first | omega | (simp only [qZ] <;> omega) | fail) only [push_cast, ↓qP, ↓reduceIte, seval, f0, f2, f4, f7, c1, hb1.rdc, q0, q1, q2, q3, q4]) | (refine qA ?_ ?_; (first | omega | (simp only [qL]; omega) | (simp only [qD] at *; omega))))
      refine CallV.of isCall_59 (hih _ hmem W _ _ _ D hM t4 t3 (by omega) hre0) ?_
      rintro _ W2 ⟨rfl, hM2, hk2⟩
      rw [← hcat] at hM2 ⊢
      refine Sm.out ?_
      repeat (first | refine qS ?_ | refine qB ?_ | refine qT rfl ?_ | refine qF rfl ?_ | ((first | refine qR rfl ?_ | refine qK ?_ | refine qE ?_ | refine qW ?_ | refine qM ?_); try simp -dsimp (maxSteps := 2000000) (disch := first | omega | (simp only [qZ] <;> omega) | fail) only [push_cast, ↓qP, ↓reduceIte, seval, f0, f2, f4, f7]) | (refine qA ?_ ?_; (first | omega | (simp only [qL]; omega) | (simp only [qD] at *; omega))))
      exact Again.mk j ⟨by omega, by simp [upd, f0], by simp [upd], by simp [upd, f4], by simp [upd], hk2 _ _ hb1, hM2, hk1.trans hk2⟩ (by omega)
  · obtain ⟨e1, e2, e3, e4, e5, e6⟩ := ops_alt
    have et : tree4 (.node opAlt set kids lo hi) next ms = alt4 kids next ms := by simp only [tree4, Ne.symm n8, Ne.symm n11, Ne.symm n13, if_true, if_false]
    have en : nst (.node opAlt set kids lo hi) = nsts kids + (kids.length - 1) := by simp only [nst, Ne.symm n8, Ne.symm n11, Ne.symm n13, if_true, if_false]
    rw [en] at hs
    rw [et]
    obtain ⟨n', hn'⟩ : ∃ n', kids.length = n' + 1 := ⟨kids.length - 1, by have : 0 < kids.length := List.length_pos_iff.2 hk; omega⟩
    have hl1 : (kids.length : Int) - 1 = (n' : Int) := by omega
    have hl2 : (kids.length : Int) - 2 = (n' : Int) - 1 := by omega
    have hltn : n' < kids.length := by omega
    have hget : kids[n']? = some kids[n'] := List.getElem?_eq_getElem hltn
    have hdr0 : kids.drop n' = [kids[n']] := by rw [List.drop_eq_getElem_cons hltn, List.drop_of_length_le (by omega)]
    have ha0 : alt4 (kids.drop n') next ms = tree4 kids[n'] next ms := by rw [hdr0]; simp only [alt4]
    have hmem0 : kids[n'] ∈ kids := List.getElem_mem hltn
    have hns0 := nsts_mem hmem0
    obtain ⟨b, o, d0, d1, A1, m1, d2, lo1, hi1, rfl, hbl, hD, q0, q1, q2, q3, q4, hre, hre0⟩ := h.kid hM.kp hget
    repeat (first | refine qS ?_ | refine qB ?_ | refine qT rfl ?_ | refine qF rfl ?_ | ((first | refine qR rfl ?_ | refine qK ?_ | refine qE ?_ | refine qW ?_ | refine qM ?_); try simp -dsimp (maxSteps := 2000000) (disch := first | omega | (simp only [qZ] <;> omega) | fail) only [push_cast, ↓qP, ↓reduceIte, seval, hb1.rdc, e2, e3, e6, e4, hl1, q0, q1, q2, q3, q4]) | (refine qA ?_ ?_; (first | omega | (simp only [qL]; omega) | (simp only [qD] at *; omega))))
    refine CallV.of isCall_59 (hih _ hmem0 w2 _ _ _ D hM hn hw (by omega) hre0) ?_
    rintro _ w3 ⟨rfl, hM3, hk3⟩
    have hb3 := hk3 _ _ hb1
    have hltp3 := hb3.lt
    rw [← ha0] at hM3 ⊢
    refine Sm.out ?_
    repeat (first | refine qS ?_ | refine qB ?_ | refine qT rfl ?_ | refine qF rfl ?_ | ((first | refine qR rfl ?_ | refine qK ?_ | refine qE ?_ | refine qW ?_ | refine qM ?_); try simp -dsimp (maxSteps := 2000000) (disch := first | omega | (simp only [qZ] <;> omega) | fail) only [push_cast, ↓qP, ↓reduceIte, seval, hb3.rdc, hl2]) | (refine qA ?_ ?_; (first | omega | (simp only [qL]; omega) | (simp only [qD] at *; omega))))
    refine Wp.loop (α := Nat) (fun j F W => j ≤ n' ∧ F 0 = .pointer (some ⟨m, 0, none⟩) ∧ F 2 = .int .i64 (next : Int) ∧ F 4 = .pointer (some ⟨p, 0, none⟩) ∧ F 8 = .int .i64 ((alt4 (kids.drop j) next ms).2 : Int) ∧ F 9 = .int .i64 ((j : Int) - 1) ∧ Blk W p 33 [.string (B opAlt), .string (B set), .slice (some ⟨b, o, none⟩) kids.length c, .int .i64 lo, .int .i64 hi] ∧ Mkr w m (alt4 (kids.drop j) next ms).1 W ∧ K33 w1 W) (fun j => j) n'
      ⟨Nat.le_refl _, by simp [upd, arg], by simp [upd, arg], by simp [upd], by simp [upd], by simp [upd], hb3, hM3, hk1.trans hk3⟩ ?_
    clear hM hb1 hltp hk1 hM3 hb3 hk3 hltp3 q0 q1 q2 q3 q4 hre hre0
    rintro j F W ⟨hj, f0, f2, f4, f8, f9, hb1, hM, hk1⟩
    have hltp := hb1.lt
    rcases Nat.eq_zero_or_pos j with h0 | h0
    · subst h0
      rw [List.drop_zero] at f8 hM
      have c1 : decide ((0 : Int) - 1 ≥ 0) = false := rfl
      repeat (first | refine qS ?_ | refine qB ?_ | refine qT rfl ?_ | refine qF rfl ?_ | ((first | refine qR rfl ?_ | refine qK ?_ | refine qE ?_ | refine qW ?_ | refine qM ?_); try simp -dsimp (maxSteps := 2000000) (disch := first | omega | (simp only [qZ] <;> omega) | fail) only [push_cast, ↓qP, ↓reduceIte, seval, f0, f2, f4, f8, f9, c1]) | (refine qA ?_ ?_; (first | omega | (simp only [qL]; omega) | (simp only [qD] at *; omega))))
      exact Ret.mk ⟨rfl, hM, hk1⟩
    · obtain ⟨j, rfl⟩ : ∃ j', j = j' + 1 := ⟨j - 1, by omega⟩
      have hj1 : ((j + 1 : Nat) : Int) - 1 = j := by omega
      rw [hj1] at f9
      have hlt : j < kids.length := by omega
      have c1 : decide ((j : Int) ≥ 0) = true := decide_eq_true (by omega)
      have hget : kids[j]? = some kids[j] := List.getElem?_eq_getElem hlt
      obtain ⟨b', o', d0, d1, A1, m1, d2, lo1, hi1, hA, hbl, hD, q0, q1, q2, q3, q4, hre, hre0⟩ := h.kid hM.kp hget
      injection hA with hA
      injection hA with hA1 hA2
      subst hA1; subst hA2
      have hmem : kids[j] ∈ kids := List.getElem_mem hlt
      have hdr : kids.drop j = kids[j] :: kids.drop (j + 1) := List.drop_eq_getElem_cons hlt
      have hdl : (kids.drop (j + 1)).length = kids.length - (j + 1) := List.length_drop
      have hdne : kids.drop (j + 1) ≠ [] := by intro e; rw [e] at hdl; simp at hdl; omega
      obtain ⟨t1, t2, t3, t4, t5⟩ := alt_builds l0 (kids.drop (j + 1)) (Goods_drop hgk _) hdne next ms hn hw
      have hn1 : nsts (kids.drop j) ≤ nsts kids := nsts_drop kids j
      rw [hdr] at hn1
      simp only [nsts] at hn1
      have hcat := alt4_cons kids[j] (kids.drop (j + 1)) hdne next ms
      rw [← hdr] at hcat
      have hnx : next < (alt4 (kids.drop (j + 1)) next ms).1.length := by omega
      obtain ⟨u1, u2, u3, u4, u5⟩ := tree_builds l0 kids[j] (Goods_mem hgk hmem) next (alt4 (kids.drop (j + 1)) next ms).1 hnx t3
      clear t2 t5 u2 u5
      repeat (first | refine qS ?_ | refine qB ?_ | refine qT rfl ?_ | refine qF rfl ?_ | ((first | refine qR rfl ?_ | refine qK ?_ | refine qE ?_ | refine qW ?_ | refine qM ?_); try simp -dsimp (maxSteps := 2000000) (disch := first | omega | (simp only [qZ] <;> omega) | fail) only [push_cast, ↓qP, ↓reduceIte, seval, f0, f2, f4, f8, f9, c1, hb1.rdc, q0, q1, q2, q3, q4]) | (refine qA ?_ ?_; (first | omega | (simp only [qL]; omega) | (simp only [qD] at *; omega))))
      refine CallV.of isCall_59 (hih _ hmem W _ _ _ D hM hnx t3 (by omega) hre0) ?_
      rintro _ W2 ⟨rfl, hM2, hk2⟩
      generalize tree4 kids[j] next (alt4 (kids.drop (j + 1)) next ms).1 = r at *
      refine Sm.out ?_
      repeat (first | refine qS ?_ | refine qB ?_ | refine qT rfl ?_ | refine qF rfl ?_ | ((first | refine qR rfl ?_ | refine qK ?_ | refine qE ?_ | refine qW ?_ | refine qM ?_); try simp -dsimp (maxSteps := 2000000) (disch := first | omega | (simp only [qZ] <;> omega) | fail) only [push_cast, ↓qP, ↓reduceIte, seval, f0, f2, f4, f8, f9]) | (refine qA ?_ ?_; (first | omega | (simp only [qL]; omega) | (simp only [qD] at *; omega))))
      refine CallV.of isCall_58 (put4_any hM2 (by omega) ⟨1, [], r.2, (alt4 (kids.drop (j + 1)) next ms).2⟩ none (fun h => by simp at h)) ?_
      rintro _ W3 ⟨rfl, hM3, hk3⟩
      have hM4 : Mkr w m (alt4 (kids.drop j) next ms).1 W3 := by rw [hcat]; exact hM3
      refine Sm.out ?_
      repeat (first | refine qS ?_ | refine qB ?_ | refine qT rfl ?_ | refine qF rfl ?_ | ((first | refine qR rfl ?_ | refine qK ?_ | refine qE ?_ | refine qW ?_ | refine qM ?_); try simp -dsimp (maxSteps := 2000000) (disch := first | omega | (simp only [qZ] <;> omega) | fail) only [push_cast, ↓qP, ↓reduceIte, seval, f0, f2, f4, f8, f9]) | (refine qA ?_ ?_; (first | omega | (simp only [qL]; omega) | (simp only [qD] at *; omega))))
      exact Again.mk j ⟨by omega, by simp [upd, f0], by simp [upd, f2], by simp [upd, f4], by simp [upd, hcat], by simp [upd], hk3 _ _ (hk2 _ _ hb1), hM4, hk1.trans (hk2.trans hk3)⟩ (by omega)
  · obtain ⟨e1, e2, e3, e4, e5, e6⟩ := ops_rep
    repeat (first | refine qS ?_ | refine qB ?_ | refine qT rfl ?_ | refine qF rfl ?_ | ((first | refine qR rfl ?_ | refine qK ?_ | refine qE ?_ | refine qW ?_ | refine qM ?_); try simp -dsimp (maxSteps := 2000000) (disch := first | omega | (simp only [qZ] <;> omega) | fail) only [push_cast, ↓qP, ↓reduceIte, seval, hb1.rdc, e2, e3, e6, e4, e5]) | (refine qA ?_ ?_; (first | omega | (simp only [qL]; omega) | (simp only [qD] at *; omega))))
    refine CallV.of isCall_75 (hrep set kids lo hi hg hih hwt' w2 ms next _ D hM hn hw hs h) ?_
    rintro _ w3 ⟨rfl, hM2, hk2⟩
    refine Sm.out ?_
    repeat (first | refine qS ?_ | refine qB ?_ | refine qT rfl ?_ | refine qF rfl ?_ | ((first | refine qR rfl ?_ | refine qK ?_ | refine qE ?_ | refine qW ?_ | refine qM ?_); try simp -dsimp (maxSteps := 2000000) (disch := first | omega | (simp only [qZ] <;> omega) | fail) only [push_cast, ↓qP, ↓reduceIte, seval]) | (refine qA ?_ ?_; (first | omega | (simp only [qL]; omega) | (simp only [qD] at *; omega))))
    exact Ret.mk ⟨rfl, hM2, hk1.trans hk2⟩
end
end Go.Proofs.Ytddichibegppjaa

/- The machine's maker: repeat; New. -/
namespace Go.Proofs.Ytddichibegppjaa
open Go Go.VC

theorem opt4_succ (f : Mk4) (next : Nat) : ∀ (n at_ : Nat) (ms : List St4), opt4 f (n + 1) next at_ ms =
    ((f (opt4 f n next at_ ms).2 (opt4 f n next at_ ms).1).1 ++ [⟨1, [], (f (opt4 f n next at_ ms).2 (opt4 f n next at_ ms).1).2, next⟩], (f (opt4 f n next at_ ms).2 (opt4 f n next at_ ms).1).1.length)
  | 0, at_, ms => by simp only [opt4]
  | n + 1, at_, ms => by rw [opt4, opt4_succ f next n]; simp only [opt4]
theorem its4_succ (f : Mk4) : ∀ (n at_ : Nat) (ms : List St4), its4 f (n + 1) at_ ms = ((f (its4 f n at_ ms).2 (its4 f n at_ ms).1).1, (f (its4 f n at_ ms).2 (its4 f n at_ ms).1).2)
  | 0, at_, ms => by simp only [its4]
  | n + 1, at_, ms => by rw [its4, its4_succ f n]; simp only [its4]

section
variable {w : World} {m : Nat}

theorem rep4_any (l0 : List UInt8) (set : List UInt8) (kids : List Re) (lo hi : Int) (hg : Good (.node opRep set kids lo hi)) (hih : ∀ k ∈ kids, CT w m k) (hwt : wt (.node opRep set kids lo hi) ≤ 1000000000)
    (w1 : World) (ms : List St4) (next : Nat) (cs : List Value) (D : Nat → Prop) (hM : Mkr w m ms w1) (hn : next < ms.length) (hw : Ws ms) (hs : ms.length + nst (.node opRep set kids lo hi) ≤ 1000000000) (h : IsRe w D (.node opRep set kids lo hi) cs) :
    Calls Try.prog 75 #[.pointer (some ⟨m, 0, none⟩), .agg cs.toArray, .int .i64 next] w1 fun e' w' => e' = .returned (.int .i64 (tree4 (.node opRep set kids lo hi) next ms).2) ∧ Mkr w m (tree4 (.node opRep set kids lo hi) next ms).1 w' ∧ K33 w1 w' := by
  obtain ⟨A, c, rfl⟩ := h.cells
  obtain ⟨b1, b2, b3, b4, b5, b6⟩ := hg.bounds rfl
  obtain ⟨n1, n2, n3, n4, n5, n6, n7, n8, n9, n10, n11, n12, n13, n14, n15⟩ := op_ne
  have et : tree4 (.node opRep set kids lo hi) next ms = rep4 kids lo hi next ms := by simp only [tree4, Ne.symm n9, Ne.symm n12, Ne.symm n14, Ne.symm n15, if_true, if_false]
  have en : nst (.node opRep set kids lo hi) = nrep kids lo hi := by simp only [nst, Ne.symm n9, Ne.symm n12, Ne.symm n14, Ne.symm n15, if_true, if_false]
  rw [en] at hs
  rw [et]
  obtain ⟨k, rfl⟩ : ∃ k, kids = [k] := by
    match kids, b6 with
    | [k], _ => exact ⟨k, rfl⟩
  obtain ⟨n0, rfl⟩ : ∃ n0 : Nat, lo = n0 := ⟨lo.toNat, by omega⟩
  have hgk : Good k := by have := hg.kids; simp only [Goods] at this; exact this.1
  have hk := tree_builds l0 k hgk
  have hct := hih k (by simp)
  have hget : [k][0]? = some k := rfl
  obtain ⟨kb, o, d0, d1, A1, m1, d2, lo1, hi1, rfl, hbl, hD, q0, q1, q2, q3, q4, hre, hre0⟩ := h.kid hM.kp hget
  simp only [Nat.zero_mul, Nat.add_zero] at q0 q1 q2 q3 q4
  simp only [nrep, rep4, Int.toNat_natCast] at hs ⊢
  clear et en hih hg
  have hm := hM.lt
  refine enter (n := 61) (args := [.pointer (some ⟨m, 0, none⟩), .agg #[.string (B opRep), .string (B set), .slice (some ⟨kb, o, none⟩) 1 c, .int .i64 (n0 : Int), .int .i64 hi], .int .i64 (next : Int)]) Try.func75 rfl rfl rfl (by simp) ?_
  obtain ⟨p, hp⟩ : ∃ p, p = w1.heap.size := ⟨_, rfl⟩
  obtain ⟨q, hq⟩ : ∃ q, q = p + 1 := ⟨_, rfl⟩
  refine Sm.out ?_
  repeat (first | ((fail_if_success (first | refine qY (n := 2) ?_ | refine qV (n := 2) ?_)); refine qS ?_) | refine qB ?_ | refine qT rfl ?_ | refine qF rfl ?_ | ((first | refine qR rfl ?_ | refine qK ?_ | refine qE ?_ | refine qW ?_ | refine qM ?_); try simp -dsimp (maxSteps := 2000000) (disch := first | omega | (simp only [qZ] <;> omega) | fail) only [push_cast, ↓qP, ↓reduceIte, seval, q0, q1, q2, q3, q4]) | (refine qA ?_ ?_; (first | omega | (simp only [qL]; omega) | (simp only [qD] at *; omega))))
  rw [← hp, ← hq]
  refine Wp.gen (w := ((w1.alloc (.cells (List.toArray [.string (B opRep), .string (B set), .slice (some ⟨kb, o, none⟩) 1 c, .int .i64 (n0 : Int), .int .i64 hi]) 33)).alloc (.cells zRe.toArray 33)).setCells q 0 [.string (B d0), .string (B d1), .slice A1 m1 d2, .int .i64 lo1, .int .i64 hi1]) (A := fun W => Mkr w m ms W ∧ K33 w1 W ∧ Blk W p 33 [.string (B opRep), .string (B set), .slice (some ⟨kb, o, none⟩) 1 c, .int .i64 (n0 : Int), .int .i64 hi] ∧ Blk W q 33 [.string (B d0), .string (B d1), .slice A1 m1 d2, .int .i64 lo1, .int .i64 hi1]) ?_ ?_
  · have hk0 : Kp (fun _ => False) w1 (((w1.alloc (.cells (List.toArray [.string (B opRep), .string (B set), .slice (some ⟨kb, o, none⟩) 1 c, .int .i64 (n0 : Int), .int .i64 hi]) 33)).alloc (.cells zRe.toArray 33)).setCells q 0 [.string (B d0), .string (B d1), .slice A1 m1 d2, .int .i64 lo1, .int .i64 hi1]) := (((Kp.refl (fun _ => False) w1).alloc _).alloc _).setCells (fun h => by omega) _ _
    refine ⟨hM.keep0 hk0, K33.of hk0, Blk.farCells (by omega) _ _ _ (by rw [hp]; exact (Blk.new w1 33 [.string (B opRep), .string (B set), .slice (some ⟨kb, o, none⟩) 1 c, .int .i64 (n0 : Int), .int .i64 hi]).alloc _), Blk.setAll (cs := zRe) ?_ rfl⟩
    have := Blk.new (w1.alloc (.cells (List.toArray [.string (B opRep), .string (B set), .slice (some ⟨kb, o, none⟩) 1 c, .int .i64 (n0 : Int), .int .i64 hi]) 33)) 33 zRe
    rw [World.size_alloc, ← hp, ← hq] at this
    exact this
  clear hM q0 q1 q2 q3 q4 hre hp hq hm
  rintro w2 ⟨hM, hk2, hp2, hq2⟩
  have hltp := hp2.lt
  have hltq := hq2.lt
  refine Wp.seq (Wp.region rfl ?_)
  simp -dsimp (maxSteps := 2000000) (disch := first | omega | (simp only [qZ] <;> omega) | fail) only [push_cast, ↓qP, ↓reduceIte, seval]
  refine Wp.cut (fun F W => ∃ r : List St4 × Nat, r = (if hi < 0 then star4 (tree4 k) next ms else (ms, next)) ∧ F 0 = .pointer (some ⟨m, 0, none⟩) ∧ F 2 = .int .i64 (next : Int) ∧ F 4 = .pointer (some ⟨p, 0, none⟩) ∧ F 7 = .pointer (some ⟨q, 0, none⟩) ∧ F 8 = .int .i64 (r.2 : Int) ∧ Mkr w m r.1 W ∧ K33 w1 W ∧ Blk W p 33 [.string (B opRep), .string (B set), .slice (some ⟨kb, o, none⟩) 1 c, .int .i64 (n0 : Int), .int .i64 hi] ∧ Blk W q 33 [.string (B d0), .string (B d1), .slice A1 m1 d2, .int .i64 lo1, .int .i64 hi1]) ?_ ?_
  · rcases Bool.eq_false_or_eq_true (decide (hi < 0)) with c6 | c6
    · have c6' : hi < 0 := by simpa using c6
      rw [if_pos c6'] at hs ⊢
      have hw1 : Ws (ms ++ [⟨1, [], 0, next⟩]) := hw.snoc (by show 0 < _; omega) (by show next < _; omega)
      have hl1 : (ms ++ [(⟨1, [], 0, next⟩ : St4)]).length = ms.length + 1 := by simp
      obtain ⟨u1, u2, u3, u4, u5⟩ := hk ms.length (ms ++ [⟨1, [], 0, next⟩]) (by omega) hw1
      rw [hl1] at u1
      have hat := u2 ms.length (by omega)
      rw [List.getElem?_append_right (Nat.le_refl _), Nat.sub_self] at hat
      clear u2 u5
      repeat (first | refine qS ?_ | refine qB ?_ | refine qT rfl ?_ | refine qF rfl ?_ | ((first | refine qR rfl ?_ | refine qK ?_ | refine qE ?_ | refine qW ?_ | refine qM ?_); try simp -dsimp (maxSteps := 2000000) (disch := first | omega | (simp only [qZ] <;> omega) | fail) only [push_cast, ↓qP, ↓reduceIte, seval, hp2.rdc, c6]) | (refine qA ?_ ?_; (first | omega | (simp only [qL]; omega) | (simp only [qD] at *; omega))))
      refine CallV.of isCall_58 (put4_any hM (by omega) ⟨1, [], 0, next⟩ none (fun h => by simp at h)) ?_
      rintro _ w3 ⟨rfl, hM3, hk3⟩
      have hq3 := hk3 _ _ hq2
      have hltq3 := hq3.lt
      have hp3 := hk3 _ _ hp2
      refine Sm.out ?_
      repeat (first | refine qS ?_ | refine qB ?_ | refine qT rfl ?_ | refine qF rfl ?_ | ((first | refine qR rfl ?_ | refine qK ?_ | refine qE ?_ | refine qW ?_ | refine qM ?_); try simp -dsimp (maxSteps := 2000000) (disch := first | omega | (simp only [qZ] <;> omega) | fail) only [push_cast, ↓qP, ↓reduceIte, seval, hq3.rdc]) | (refine qA ?_ ?_; (first | omega | (simp only [qL]; omega) | (simp only [qD] at *; omega))))
      refine CallV.of isCall_59 (hct w3 _ ms.length _ D hM3 (by omega) hw1 (by omega) hre0) ?_
      rintro _ w4 ⟨rfl, hM4, hk4⟩
      have hq4 := hk4 _ _ hq3
      have hp4 := hk4 _ _ hp3
      have hst : star4 (tree4 k) next ms = _ := rfl
      unfold star4 at hst ⊢
      generalize tree4 k ms.length (ms ++ [⟨1, [], 0, next⟩]) = r at *
      obtain ⟨N, hM4⟩ := hM4
      obtain ⟨g, cap, v, g1, g2, g3, g4, g5, g6, g7⟩ := hM4.patch (k := ms.length) (st := ⟨1, [], 0, next⟩) hat r.2
      have hltm := g1.lt
      refine Sm.out ?_
      repeat (first | refine qS ?_ | refine qB ?_ | refine qT rfl ?_ | refine qF rfl ?_ | ((first | refine qR rfl ?_ | refine qK ?_ | refine qE ?_ | refine qW ?_ | refine qM ?_); try simp -dsimp (maxSteps := 2000000) (disch := first | omega | (simp only [qZ] <;> omega) | fail) only [push_cast, ↓qP, ↓reduceIte, seval, g1.rdc, g2, g3]) | (refine qA ?_ ?_; (first | omega | (simp only [qL]; omega) | (simp only [qD] at *; omega))))
      exact Mid.mk ⟨_, rfl, by simp [upd, arg], by simp [upd, arg], by simp [upd], by simp [upd], by simp [upd], ⟨N, g6⟩, (hk2.trans (hk3.trans hk4)).trans g7, g7 _ _ hp4, g7 _ _ hq4⟩
    · have c6' : ¬ hi < 0 := by simpa using c6
      rw [if_neg c6']
      repeat (first | refine qS ?_ | refine qB ?_ | refine qT rfl ?_ | refine qF rfl ?_ | ((first | refine qR rfl ?_ | refine qK ?_ | refine qE ?_ | refine qW ?_ | refine qM ?_); try simp -dsimp (maxSteps := 2000000) (disch := first | omega | (simp only [qZ] <;> omega) | fail) only [push_cast, ↓qP, ↓reduceIte, seval, hp2.rdc, c6]) | (refine qA ?_ ?_; (first | omega | (simp only [qL]; omega) | (simp only [qD] at *; omega))))
      exact Mid.mk ⟨_, rfl, by simp [upd, arg], by simp [upd, arg], by simp [upd], by simp [upd], by simp [upd], hM, hk2, hp2, hq2⟩
  clear hM hk2 hp2 hq2 hltp hltq
  rintro F w2 ⟨r, hr, f0, f2, f4, f7, f8, hM, hk2, hp2, hq2⟩
  obtain ⟨d, hd⟩ : ∃ d, d = (hi - (n0 : Int)).toNat := ⟨_, rfl⟩
  rw [← hd] at hs ⊢
  have hfa : ∀ j, j ≤ d → (opt4 (tree4 k) j next r.2 r.1).1.length = ms.length + (if hi < 0 then nst k + 1 else j * (nst k + 1)) ∧ Ws (opt4 (tree4 k) j next r.2 r.1).1 ∧ (opt4 (tree4 k) j next r.2 r.1).2 < (opt4 (tree4 k) j next r.2 r.1).1.length ∧
      ∃ P, ∀ M, Ag M (opt4 (tree4 k) j next r.2 r.1).1 ms.length → Sem M l0 P (opt4 (tree4 k) j next r.2 r.1).2 next := by
    intro j hj
    by_cases hneg : hi < 0
    · obtain rfl : j = 0 := by omega
      rw [if_pos hneg] at hr ⊢
      obtain ⟨v1, v2, v3, v4, v5⟩ := star_builds hk hn hw
      rw [← hr] at v1 v3 v4 v5
      exact ⟨by simp only [opt4]; omega, v3, v4, _, v5⟩
    · rw [if_neg hneg] at hr ⊢
      subst hr
      obtain ⟨v1, v2, v3, v4, v5⟩ := opt_builds hk (next := next) (base := ms.length) j 0 next ms hn hn (Nat.le_refl _) hw (fun M _ => Sem.id.congr fun i j => by
        constructor
        · intro h; exact ⟨0, Nat.le_refl _, h⟩
        · rintro ⟨m, h1, h2⟩; obtain rfl : m = 0 := by omega
          exact h2)
      exact ⟨v1, v3, v4, _, v5⟩
  obtain ⟨R, hR⟩ : ∃ R, R = opt4 (tree4 k) d next r.2 r.1 := ⟨_, rfl⟩
  have hRe : (if hi < 0 then star4 (tree4 k) next ms else opt4 (tree4 k) d next next ms) = R := by
    rw [hR, hr]
    by_cases hneg : hi < 0
    · rw [if_pos hneg, if_pos hneg, show d = 0 by omega]; rfl
    · rw [if_neg hneg, if_neg hneg]
  rw [hRe]
  refine Wp.cut (fun F W => F 0 = .pointer (some ⟨m, 0, none⟩) ∧ F 4 = .pointer (some ⟨p, 0, none⟩) ∧ F 7 = .pointer (some ⟨q, 0, none⟩) ∧ F 8 = .int .i64 (R.2 : Int) ∧ Mkr w m R.1 W ∧ K33 w1 W ∧ Blk W p 33 [.string (B opRep), .string (B set), .slice (some ⟨kb, o, none⟩) 1 c, .int .i64 (n0 : Int), .int .i64 hi] ∧ Blk W q 33 [.string (B d0), .string (B d1), .slice A1 m1 d2, .int .i64 lo1, .int .i64 hi1]) ?_ ?_
  · have hltp := hp2.lt
    repeat (first | refine qS ?_ | refine qB ?_ | refine qT rfl ?_ | refine qF rfl ?_ | ((first | refine qR rfl ?_ | refine qK ?_ | refine qE ?_ | refine qW ?_ | refine qM ?_); try simp -dsimp (maxSteps := 2000000) (disch := first | omega | (simp only [qZ] <;> omega) | fail) only [push_cast, ↓qP, ↓reduceIte, seval, f4, hp2.rdc]) | (refine qA ?_ ?_; (first | omega | (simp only [qL]; omega) | (simp only [qD] at *; omega))))
    refine Wp.loop (α := Nat) (fun x F W => ∃ j, x = d - j ∧ j ≤ d ∧ F 0 = .pointer (some ⟨m, 0, none⟩) ∧ F 2 = .int .i64 (next : Int) ∧ F 4 = .pointer (some ⟨p, 0, none⟩) ∧ F 7 = .pointer (some ⟨q, 0, none⟩) ∧ F 8 = .int .i64 ((opt4 (tree4 k) j next r.2 r.1).2 : Int) ∧ F 10 = .int .i64 ((n0 : Int) + j) ∧ Mkr w m (opt4 (tree4 k) j next r.2 r.1).1 W ∧ K33 w1 W ∧ Blk W p 33 [.string (B opRep), .string (B set), .slice (some ⟨kb, o, none⟩) 1 c, .int .i64 (n0 : Int), .int .i64 hi] ∧ Blk W q 33 [.string (B d0), .string (B d1), .slice A1 m1 d2, .int .i64 lo1, .int .i64 hi1]) (fun x => x) d
      ⟨0, rfl, Nat.zero_le _, by simp [upd, f0], by simp [upd, f2], by simp [upd, f4], by simp [upd, f7], by simp [upd, f8, opt4], by simp [upd], hM, hk2, hp2, hq2⟩ ?_
    clear hM hk2 hp2 hq2 hltp f0 f2 f4 f7 f8 hRe
    rintro x F W ⟨j, rfl, hj, f0, f2, f4, f7, f8, f10, hM, hk2, hp2, hq2⟩
    have hltp := hp2.lt
    have hltq := hq2.lt
    rcases Nat.lt_or_ge j d with hlt | hge
    · have hnn : ¬ hi < 0 := by omega
      have c1 : decide ((n0 : Int) + j < hi) = true := decide_eq_true (by omega)
      obtain ⟨v1, v3, v4, _⟩ := hfa j (by omega)
      rw [if_neg hnn] at v1 hs
      have hmul : (j + 1) * (nst k + 1) ≤ d * (nst k + 1) := Nat.mul_le_mul_right _ (by omega)
      rw [Nat.add_mul] at hmul
      have hnx : next < (opt4 (tree4 k) j next r.2 r.1).1.length := by omega
      obtain ⟨u1, u2, u3, u4, u5⟩ := hk _ _ v4 v3
      have hsu := opt4_succ (tree4 k) next j r.2 r.1
      clear u2 u5 hfa
      replace hs : Hide _ := ⟨hs⟩
      repeat (first | refine qS ?_ | refine qB ?_ | refine qT rfl ?_ | refine qF rfl ?_ | ((first | refine qR rfl ?_ | refine qK ?_ | refine qE ?_ | refine qW ?_ | refine qM ?_); try simp -dsimp (maxSteps := 2000000) (disch := first | omega | (simp only [qZ] <;> omega) | fail) only [push_cast, ↓qP, ↓reduceIte, seval, f0, f2, f4, f7, f8, f10, hp2.rdc, hq2.rdc, c1]) | (refine qA ?_ ?_; (first | omega | (simp only [qL]; omega) | (simp only [qD] at *; omega))))
      have hs := hs.out
      refine CallV.of isCall_59 (hct W _ _ _ D hM v4 v3 (by omega) hre0) ?_
      rintro _ W2 ⟨rfl, hM2, hk3⟩
      generalize tree4 k (opt4 (tree4 k) j next r.2 r.1).2 (opt4 (tree4 k) j next r.2 r.1).1 = y at *
      have hyl : y.1.length ≤ 1000000000 := by omega
      clear hs hmul
      refine Sm.out ?_
      repeat (first | refine qS ?_ | refine qB ?_ | refine qT rfl ?_ | refine qF rfl ?_ | ((first | refine qR rfl ?_ | refine qK ?_ | refine qE ?_ | refine qW ?_ | refine qM ?_); try simp -dsimp (maxSteps := 2000000) (disch := first | omega | (simp only [qZ] <;> omega) | fail) only [push_cast, ↓qP, ↓reduceIte, seval, f0, f2, f4, f7, f8, f10]) | (refine qA ?_ ?_; (first | omega | (simp only [qL]; omega) | (simp only [qD] at *; omega))))
      refine CallV.of isCall_58 (put4_any hM2 hyl ⟨1, [], y.2, next⟩ none (fun h => by simp at h)) ?_
      rintro _ W3 ⟨rfl, hM3, hk4⟩
      refine Sm.out ?_
      repeat (first | refine qS ?_ | refine qB ?_ | refine qT rfl ?_ | refine qF rfl ?_ | ((first | refine qR rfl ?_ | refine qK ?_ | refine qE ?_ | refine qW ?_ | refine qM ?_); try simp -dsimp (maxSteps := 2000000) (disch := first | omega | (simp only [qZ] <;> omega) | fail) only [push_cast, ↓qP, ↓reduceIte, seval, f0, f2, f4, f7, f8, f10]) | (refine qA ?_ ?_; (first | omega | (simp only [qL]; omega) | (simp only [qD] at *; omega))))
      refine Again.mk (d - (j + 1)) ⟨j + 1, rfl, by omega, by simp [upd, f0], by simp [upd, f2], by simp [upd, f4], by simp [upd, f7], by simp [upd, hsu], by simp [upd]; omega, by rw [hsu]; exact hM3, hk2.trans (hk3.trans hk4), hk4 _ _ (hk3 _ _ hp2), hk4 _ _ (hk3 _ _ hq2)⟩ (by omega)
    · obtain rfl : j = d := by omega
      have c1 : decide ((n0 : Int) + j < hi) = false := decide_eq_false (by omega)
      rw [← hR] at hM f8
      repeat (first | refine qS ?_ | refine qB ?_ | refine qT rfl ?_ | refine qF rfl ?_ | ((first | refine qR rfl ?_ | refine qK ?_ | refine qE ?_ | refine qW ?_ | refine qM ?_); try simp -dsimp (maxSteps := 2000000) (disch := first | omega | (simp only [qZ] <;> omega) | fail) only [push_cast, ↓qP, ↓reduceIte, seval, f0, f2, f4, f7, f8, f10, hp2.rdc, c1]) | (refine qA ?_ ?_; (first | omega | (simp only [qL]; omega) | (simp only [qD] at *; omega))))
      exact Mid.mk ⟨by simp [upd, f0], by simp [upd, f4], by simp [upd, f7], by simp [upd, f8], hM, hk2, hp2, hq2⟩
  obtain ⟨v1, v3, v4, P, v5⟩ := hfa d (Nat.le_refl _)
  rw [← hR] at v1 v3 v4 v5
  have hRm : ms.length ≤ R.1.length := by rw [v1]; omega
  have hRl : R.1.length + n0 * nst k ≤ 1000000000 := by rw [v1]; omega
  clear hM hk2 hp2 hq2 f0 f2 f4 f7 f8 hfa v1 hs hRe
  rintro F w3 ⟨f0, f4, f7, f8, hM, hk2, hp2, hq2⟩
  have hib := fun j => its_builds hk (next := next) (base := ms.length) j R.2 R.1 P v4 hRm v3 v5
  have hltp := hp2.lt
  repeat (first | refine qS ?_ | refine qB ?_ | refine qT rfl ?_ | refine qF rfl ?_ | ((first | refine qR rfl ?_ | refine qK ?_ | refine qE ?_ | refine qW ?_ | refine qM ?_); try simp -dsimp (maxSteps := 2000000) (disch := first | omega | (simp only [qZ] <;> omega) | fail) only [push_cast, ↓qP, ↓reduceIte, seval, f0, f4, f7, f8, hp2.rdc]) | (refine qA ?_ ?_; (first | omega | (simp only [qL]; omega) | (simp only [qD] at *; omega))))
  refine Wp.loop (α := Nat) (fun x F W => ∃ j, x = n0 - j ∧ j ≤ n0 ∧ F 0 = .pointer (some ⟨m, 0, none⟩) ∧ F 7 = .pointer (some ⟨q, 0, none⟩) ∧ F 8 = .int .i64 ((its4 (tree4 k) j R.2 R.1).2 : Int) ∧ F 52 = .int .i64 (n0 : Int) ∧ F 53 = .int .i64 (j : Int) ∧ Mkr w m (its4 (tree4 k) j R.2 R.1).1 W ∧ K33 w1 W ∧ Blk W q 33 [.string (B d0), .string (B d1), .slice A1 m1 d2, .int .i64 lo1, .int .i64 hi1]) (fun x => x) n0
    ⟨0, rfl, Nat.zero_le _, by simp [upd, f0], by simp [upd, f7], by simp [upd, f8, its4], by simp [upd], by simp [upd], hM, hk2, hq2⟩ ?_
  clear hM hk2 hp2 hq2 hltp f0 f4 f7 f8
  rintro x F W ⟨j, rfl, hj, f0, f7, f8, f52, f53, hM, hk2, hq2⟩
  have hltq := hq2.lt
  rcases Nat.lt_or_ge j n0 with hlt | hge
  · have c1 : decide ((j : Int) < (n0 : Int)) = true := decide_eq_true (by omega)
    obtain ⟨v1, _, v3', v4', _⟩ := hib j
    have hmul : (j + 1) * nst k ≤ n0 * nst k := Nat.mul_le_mul_right _ (by omega)
    rw [Nat.add_mul] at hmul
    have hsu := its4_succ (tree4 k) j R.2 R.1
    clear hib
    repeat (first | refine qS ?_ | refine qB ?_ | refine qT rfl ?_ | refine qF rfl ?_ | ((first | refine qR rfl ?_ | refine qK ?_ | refine qE ?_ | refine qW ?_ | refine qM ?_); try simp -dsimp (maxSteps := 2000000) (disch := first | omega | (simp only [qZ] <;> omega) | fail) only [push_cast, ↓qP, ↓reduceIte, seval, f0, f7, f8, f52, f53, hq2.rdc, c1]) | (refine qA ?_ ?_; (first | omega | (simp only [qL]; omega) | (simp only [qD] at *; omega))))
    refine CallV.of isCall_59 (hct W _ _ _ D hM v4' v3' (by omega) hre0) ?_
    rintro _ W2 ⟨rfl, hM2, hk3⟩
    refine Sm.out ?_
    repeat (first | refine qS ?_ | refine qB ?_ | refine qT rfl ?_ | refine qF rfl ?_ | ((first | refine qR rfl ?_ | refine qK ?_ | refine qE ?_ | refine qW ?_ | refine qM ?_); try simp -dsimp (maxSteps := 2000000) (disch := first | omega | (simp only [qZ] <;> omega) | fail) only [push_cast, ↓qP, ↓reduceIte, seval, f0, f7, f8, f52, f53]) | (refine qA ?_ ?_; (first | omega | (simp only [qL]; omega) | (simp only [qD] at *; omega))))
    refine Again.mk (n0 - (j + 1)) ⟨j + 1, rfl, by omega, by simp [upd, f0], by simp [upd, f7], by simp [upd, hsu], by simp [upd, f52], by simp [upd], by rw [hsu]; exact hM2, hk2.trans hk3, hk3 _ _ hq2⟩ (by omega)
  · obtain rfl : j = n0 := by omega
    have c1 : decide ((j : Int) < (j : Int)) = false := decide_eq_false (by omega)
    repeat (first | refine qS ?_ | refine qB ?_ | refine qT rfl ?_ | refine qF rfl ?_ | ((first | refine qR rfl ?_ | refine qK ?_ | refine qE ?_ | refine qW ?_ | refine qM ?_); try simp -dsimp (maxSteps := 2000000) (disch := first | omega | (simp only [qZ] <;> omega) | fail) only [push_cast, ↓qP, ↓reduceIte, seval, f0, f7, f8, f52, f53, c1]) | (refine qA ?_ ?_; (first | omega | (simp only [qL]; omega) | (simp only [qD] at *; omega))))
    exact Ret.mk ⟨rfl, hM, hk2⟩

theorem maker_any : ∀ e : Re, Good e → wt e ≤ 1000000000 → CT w m e := tree4_any [] fun set kids lo hi hg hih hwt w1 ms next cs D hM hn hw hs h => rep4_any [] set kids lo hi hg hih hwt w1 ms next cs D hM hn hw hs h

/-- A machine in memory. -/
def IsMach (w : World) (D : Nat → Prop) (M : List St4) (start : Nat) (v : Value) : Prop :=
  ∃ b A cap xs, v = .pointer (some ⟨b, 0, none⟩) ∧ D b ∧ Blk w b 107 [.slice A M.length cap, .int .i64 start] ∧ Own w 104 4 A M.length cap xs ∧ (∀ g, bk A = some g → D g) ∧ IsSts w D M xs

theorem new4_any (w : World) (e : Re) (hg : Good e) (hsz : size3 e ≤ 2000) (hwt : wt e ≤ 2001) (D : Nat → Prop) (cs : List Value) (h : IsRe w D e cs) :
    Calls Try.prog 22 #[.agg cs.toArray] w fun e' w' => ∃ v, e' = .returned v ∧ IsMach w' (fun b => w.heap.size ≤ b ∧ b < w'.heap.size) (new4 e).1 (new4 e).2 v ∧ Kp (fun _ => False) w w' := by
  obtain ⟨o, se, A, m', c, lo, hi, rfl⟩ := h.form
  have hns := nst_le 2500 (by omega) e hg hsz (by omega)
  have hsb := size3_bound e hg
  have hnl : nst e ≤ 5000000 := by
    have : 2500 * size3 e ≤ 2500 * 2000 := Int.mul_le_mul_of_nonneg_left hsz (by omega)
    omega
  clear hns hsb
  refine enter (n := 31) (args := [.agg #[.string (B o), .string (B se), .slice A m' c, .int .i64 lo, .int .i64 hi]]) Try.func22 rfl rfl rfl (by simp) ?_
  refine Wp.seq (Wp.region rfl ?_)
  simp -dsimp (maxSteps := 2000000) (disch := first | omega | (simp only [qZ] <;> omega) | fail) only [push_cast, ↓qP, ↓reduceIte, seval]
  obtain ⟨p, hp⟩ : ∃ p, p = w.heap.size := ⟨_, rfl⟩
  rw [← hp]
  refine Wp.gen (A := fun W => Kp (fun _ => False) w W ∧ Blk W p 33 [.string (B o), .string (B se), .slice A m' c, .int .i64 lo, .int .i64 hi]) ⟨(Kp.refl _ w).alloc _, by rw [hp]; exact Blk.new _ _ _⟩ ?_
  rintro w1 ⟨k1, hp1⟩
  have hltp := hp1.lt
  have hre1 := h.Kp (D' := D) k1 (fun _ _ => id) (fun _ h => h)
  repeat (first | refine qS ?_ | refine qB ?_ | refine qT rfl ?_ | refine qF rfl ?_ | ((first | refine qR rfl ?_ | refine qK ?_ | refine qE ?_ | refine qW ?_ | refine qM ?_); try simp -dsimp (maxSteps := 2000000) (disch := first | omega | (simp only [qZ] <;> omega) | fail) only [push_cast, ↓qP, ↓reduceIte, seval, hp1.rdc]) | (refine qA ?_ ?_; (first | omega | (simp only [qL]; omega) | (simp only [qD] at *; omega))))
  refine CallV.of isCall_57 (right_any e hg hsz w1 _ 0 (by omega) hre1) ?_
  rintro _ w2 ⟨rfl, k2⟩
  have hp2 := k2.Blk hp1 id
  refine Sm.out ?_
  repeat (first | ((fail_if_success (first | refine qY (n := 5) ?_ | refine qV (n := 5) ?_)); refine qS ?_) | refine qB ?_ | refine qT rfl ?_ | refine qF rfl ?_ | ((first | refine qR rfl ?_ | refine qK ?_ | refine qE ?_ | refine qW ?_ | refine qM ?_); try simp -dsimp (maxSteps := 2000000) (disch := first | omega | (simp only [qZ] <;> omega) | fail) only [push_cast, ↓qP, ↓reduceIte, seval]) | (refine qA ?_ ?_; (first | omega | (simp only [qL]; omega) | (simp only [qD] at *; omega))))
  obtain ⟨m, hm⟩ : ∃ m, m = w2.heap.size := ⟨_, rfl⟩
  have hk3 : Kp (fun _ => False) w (w2.alloc (.cells #[.slice none 0 0] 100)) := (k1.trans k2).alloc _
  have hM0 : Mkr w m [] (w2.alloc (.cells #[.slice none 0 0] 100)) := ⟨0, ⟨none, 0, [], by rw [hm]; exact Blk.new w2 100 [.slice none 0 0], Own.nil _ _ _, rfl, by simp [bk]⟩, hk3, by rw [hm]; exact (k1.trans k2).size, Nat.zero_le _⟩
  have hp3 := hp2.alloc (.cells #[.slice none 0 0] 100)
  rw [← hm]
  generalize (w2.alloc (.cells #[.slice none 0 0] 100)) = w3 at *
  repeat (first | refine qS ?_ | refine qB ?_ | refine qT rfl ?_ | refine qF rfl ?_ | ((first | refine qR rfl ?_ | refine qK ?_ | refine qE ?_ | refine qW ?_ | refine qM ?_); try simp -dsimp (maxSteps := 2000000) (disch := first | omega | (simp only [qZ] <;> omega) | fail) only [push_cast, ↓qP, ↓reduceIte, seval]) | (refine qA ?_ ?_; (first | omega | (simp only [qL]; omega) | (simp only [qD] at *; omega))))
  refine CallV.of isCall_58 (put4_any hM0 (by simp) ⟨4, [], 0, 0⟩ none (fun h => by simp at h)) ?_
  rintro _ w4 ⟨rfl, hM1, hk4⟩
  have hp4 := hk4 _ _ hp3
  have hltp4 := hp4.lt
  refine Sm.out ?_
  repeat (first | refine qS ?_ | refine qB ?_ | refine qT rfl ?_ | refine qF rfl ?_ | ((first | refine qR rfl ?_ | refine qK ?_ | refine qE ?_ | refine qW ?_ | refine qM ?_); try simp -dsimp (maxSteps := 2000000) (disch := first | omega | (simp only [qZ] <;> omega) | fail) only [push_cast, ↓qP, ↓reduceIte, seval, hp4.rdc]) | (refine qA ?_ ?_; (first | omega | (simp only [qL]; omega) | (simp only [qD] at *; omega))))
  refine CallV.of isCall_59 (maker_any e hg (by omega) w4 [⟨4, [], 0, 0⟩] 0 _ D hM1 (by simp) (fun i st hi => by
    cases i with
    | zero => simp at hi; subst hi; simp
    | succ i => simp at hi) (by simp; omega) h) ?_
  rintro _ w5 ⟨rfl, hM2, hk5⟩
  obtain ⟨N, hM2⟩ := hM2
  obtain ⟨A', cap', xs, b1, b2, b3, b4⟩ := hM2.ex
  have hkp := hM2.kp
  have hltm := b1.lt
  refine Sm.out ?_
  repeat (first | refine qS ?_ | refine qB ?_ | refine qT rfl ?_ | refine qF rfl ?_ | ((first | refine qR rfl ?_ | refine qK ?_ | refine qE ?_ | refine qW ?_ | refine qM ?_); try simp -dsimp (maxSteps := 2000000) (disch := first | omega | (simp only [qZ] <;> omega) | fail) only [push_cast, ↓qP, ↓reduceIte, seval, b1.rdc]) | (refine qA ?_ ?_; (first | omega | (simp only [qL]; omega) | (simp only [qD] at *; omega))))
  refine Ret.mk ⟨_, rfl, ⟨w5.heap.size, A', cap', xs, rfl, ?_, ?_, ?_, ?_, ?_⟩, hkp.alloc _⟩
  · exact ⟨by have := hkp.size; omega, by rw [World.size_alloc]; exact Nat.lt_succ_self _⟩
  · exact Blk.new w5 107 _
  · exact b2.alloc _
  · exact fun g hg => ⟨by have := (b4 g hg).1; omega, by have := b2.lt hg; rw [World.size_alloc]; omega⟩
  · exact IsSts.Kp ((Kp.refl (fun _ => False) w5).alloc _) (fun _ _ => id) (fun b hb => ⟨by have := hb.1; omega, by have := hb.2.1; have := hM2.hN; rw [World.size_alloc]; omega⟩) _ _ b3
end
end Go.Proofs.Ytddichibegppjaa

/- The machine runs: a crowd's enter. -/
namespace Go.Proofs.Ytddichibegppjaa
open Go Go.VC

def ints (l : List Int) : List Value := l.map fun x => .int .i64 x
def nats (l : List Nat) : List Value := l.map fun x : Nat => Value.int .i64 (x : Int)
theorem ints_get (l : List Int) (j : Nat) (h : j < l.length) : (ints l)[j]? = some (.int .i64 (l.getD j 0)) := by simp [ints, List.getElem?_eq_getElem h, List.getD_eq_getElem?_getD]
theorem ints_set (l : List Int) (j : Nat) (x : Int) : (ints l).set j (.int .i64 x) = ints (l.set j x) := by simp [ints, List.map_set]
theorem nats_len (l : List Nat) : (nats l).length = l.length := by simp [nats]
theorem nats_append (a b : List Nat) : nats (a ++ b) = nats a ++ nats b := by simp [nats]

theorem IsMach.Kp {w w' : World} {S D D' : Nat → Prop} {M : List St4} {start : Nat} {v : Value} (h : IsMach w D M start v) (hk : VC.Kp S w w') (hs : ∀ b, D b → ¬ S b) (hd : ∀ b, D b → D' b) : IsMach w' D' M start v := by
  obtain ⟨b, A, cap, xs, h1, h2, h3, h4, h5, h6⟩ := h
  exact ⟨b, A, cap, xs, h1, hd b h2, hk.Blk h3 (hs b h2), h4.Kp hk (fun g hg => hs g (h5 g hg)), fun g hg => hd g (h5 g hg), IsSts.Kp hk hs hd _ _ h6⟩

/-- A crowd in memory. -/
structure Cr (w : World) (a mp N : Nat) (at_ : List Nat) (mark : List Int) (mk : Nat) (A : Option Addr) (cap : Nat) : Prop where
  blk : Blk w a 125 [.pointer (some ⟨mp, 0, none⟩), .slice A at_.length cap, .slice (some ⟨mk, 0, none⟩) N N]
  own : Own w 3 1 A at_.length cap (nats at_)
  mkb : Blk w mk 3 (ints mark)
  len : mark.length = N
  dis : bk A ≠ some mk
def Cfoot (a mk : Nat) (A : Option Addr) (x : Nat) : Prop := x = a ∨ x = mk ∨ bk A = some x
theorem Cr.Kp {w w' : World} {S : Nat → Prop} {a mp N mk cap : Nat} {at_ : List Nat} {mark : List Int} {A : Option Addr} (h : Cr w a mp N at_ mark mk A cap) (hk : VC.Kp S w w') (hs : ∀ x, Cfoot a mk A x → ¬ S x) : Cr w' a mp N at_ mark mk A cap :=
  ⟨hk.Blk h.blk (hs a (.inl rfl)), h.own.Kp hk (fun g hg => hs g (.inr (.inr hg))), hk.Blk h.mkb (hs mk (.inr (.inl rfl))), h.len, h.dis⟩

section
variable {w0 w : World} {D : Nat → Prop} {M : List St4} {start a mp mk cap i n k : Nat} {at_ : List Nat} {mark : List Int} {A : Option Addr}

theorem enter_any (hm : IsMach w0 D M start (.pointer (some ⟨mp, 0, none⟩))) (hD : ∀ b, D b → b < w0.heap.size) (hk0 : Kp (fun _ => False) w0 w) (hw : Ws M) (hC : Cr w a mp M.length at_ mark mk A cap)
    (hlow : w0.heap.size ≤ a ∧ w0.heap.size ≤ mk ∧ ∀ g, bk A = some g → w0.heap.size ≤ g) (hcw : Cwd M i n at_ mark) (hk : k < M.length) (hN : M.length ≤ 100000000) (hi : i ≤ 1000000000) (hal : at_.length ≤ cnt (vis mark (i + 1))) :
    Calls Try.prog 76 #[.pointer (some ⟨a, 0, none⟩), .int .i64 k, .int .i64 i, .int .i64 n] w fun e w' => e = .returned (.tuple #[]) ∧ ∃ at' mark' A' cap', Cr w' a mp M.length at' mark' mk A' cap' ∧ Ent M i n k at_ mark at' mark' ∧ at'.length ≤ cnt (vis mark' (i + 1)) ∧
      Kp (Cfoot a mk A) w w' ∧ ∀ g, bk A' = some g → bk A = some g ∨ w.heap.size ≤ g := by
  have hla := hC.blk.lt
  have hlm := hC.mkb.lt
  have hAl := fun g hg => hC.own.lt (g := g) hg
  refine enter (n := 108) (args := [.pointer (some ⟨a, 0, none⟩), .int .i64 (k : Int), .int .i64 (i : Int), .int .i64 (n : Int)]) Try.func76 rfl rfl rfl (by simp) ?_
  refine Wp.seq (Wp.region rfl ?_)
  simp -dsimp (maxSteps := 2000000) (disch := first | omega | (simp only [qZ] <;> omega) | fail) only [push_cast, ↓qP, ↓reduceIte, seval]
  refine Wp.block ?_
  refine Wp.loop (α := Nat) (fun u F W => ∃ todo at' mark' A' cap' T capT, u = mu mark' (i + 1) todo ∧ u ≤ 3 * M.length + 1 ∧ F 0 = .pointer (some ⟨a, 0, none⟩) ∧ F 2 = .int .i64 (i : Int) ∧ F 3 = .int .i64 (n : Int) ∧ F 8 = .slice T todo.length capT ∧
      Own W 3 1 T todo.length capT (nats todo) ∧ (∀ g, bk T = some g → w.heap.size ≤ g ∧ bk A' ≠ some g) ∧ Cr W a mp M.length at' mark' mk A' cap' ∧ EntW M i n k at_ mark todo at' mark' ∧ at'.length ≤ cnt (vis mark' (i + 1)) ∧ Kp (Cfoot a mk A) w W ∧ ∀ g, bk A' = some g → bk A = some g ∨ w.heap.size ≤ g) (fun u => u) (mu mark (i + 1) [k])
    ⟨[k], at_, mark, A, cap, some ⟨w.heap.size, 0, none⟩, 1, rfl, ?_, by simp [upd, arg], by simp [upd, arg], by simp [upd, arg], by simp [upd], ?_, ?_, hC.Kp (S := fun _ => False) ((Kp.refl _ w).alloc _) (fun _ _ => id), EntW.start hC.len hk hcw, hal, (Kp.refl _ w).alloc _, fun g hg => .inl hg⟩ ?_
  · unfold mu; rw [hC.len]; simp; omega
  · exact Own.mk' (cur := #[.int .i64 (k : Int)]) (Blk.new w 3 [.int .i64 (k : Int)]) (Nat.le_refl _) (by decide) (by simp) (by simp [nats])
  · intro g hg
    simp [bk] at hg
    subst hg
    exact ⟨Nat.le_refl _, fun e => by have := hAl _ e; omega⟩
  clear hC hcw hal
  rintro u F W ⟨todo, at', mark', A', cap', T, capT, rfl, hu, f0, f2, f3, f8, hT, hTf, hC, hE, hal, hkw, hA'⟩
  have hltb := hC.blk.lt
  have hltk := hC.mkb.lt
  have hta : todo.length ≤ 3 * M.length + 1 := by unfold mu at hu; omega
  rcases List.eq_nil_or_concat todo with rfl | ⟨t, x, rfl⟩
  · have c1 : decide (((([] : List Nat).length : Nat) : Int) > 0) = false := rfl
    repeat (first | refine qS ?_ | refine qB ?_ | refine qT rfl ?_ | refine qF rfl ?_ | ((first | refine qR rfl ?_ | refine qK ?_ | refine qE ?_ | refine qW ?_ | refine qM ?_); try simp -dsimp (maxSteps := 2000000) (disch := first | omega | (simp only [qZ] <;> omega) | fail) only [push_cast, ↓qP, ↓reduceIte, seval, f0, f8]) | (refine qA ?_ ?_; (first | omega | (simp only [qL]; omega) | (simp only [qD] at *; omega))))
    exact Ret.mk ⟨rfl, at', mark', A', cap', hC, hE.done, hal, hkw, hA'⟩
  rw [List.concat_eq_append] at *
  have hl1 : (t ++ [x]).length = t.length + 1 := by simp
  have hx := hE.tl x (by simp)
  rw [hl1] at f8 hT
  have c1 : decide ((t.length : Int) + 1 > 0) = true := decide_eq_true (by omega)
  have hl2 : (t.length : Int) + 1 - 1 = (t.length : Int) := by omega
  obtain ⟨g, rfl, hg, hcap, _⟩ := hT.some (by omega)
  have hgf := hTf g rfl
  have r1 : rdc W g t.length = some (.int .i64 (x : Int)) := by
    rw [hT.rdc t.length (by omega), nats_append, List.getElem?_append_right (by rw [nats_len]; omega), nats_len, Nat.sub_self]
    rfl
  have hT2 := hT.cut t.length (by omega)
  rw [Nat.mul_one, nats_append, List.take_append_of_le_length (by rw [nats_len]; omega), List.take_of_length_le (by rw [nats_len]; omega)] at hT2
  have hcapp : ¬ ((capT : Int) = 0) := by omega
  have hga : g ≠ a := by omega
  have hgk : g ≠ mk := by omega
  have hxm : x < mark'.length := by rw [hE.len]; exact hx
  have r2 : rdc W mk x = some (.int .i64 (mark'.getD x 0)) := by rw [hC.mkb.rdc]; exact ints_get _ _ hxm
  have c3 : decide ((t.length : Int) ≤ (capT : Int)) = true := decide_eq_true (by omega)
  have hx64 : (x : Int) ≤ 100000000 := by omega
  rcases Bool.eq_false_or_eq_true (mark'.getD x 0 == (i : Int) + 1) with c2 | c2
  · have hin : In (vis mark' (i + 1)) x := by rw [In_vis, List.getElem?_eq_getElem hxm]; simpa [List.getD_eq_getElem?_getD, List.getElem?_eq_getElem hxm] using c2
    have hs0 : (if (capT : Int) = 0 then some (⟨g, 0, none⟩ : Addr) else some ((⟨g, 0, none⟩ : Addr).add 0)) = some ⟨g, 0, none⟩ := by rw [if_neg hcapp, Addr.add_plain]
    have hc0 : ((capT : Int) - 0).toNat = capT := by omega
    repeat (first | refine qS ?_ | refine qB ?_ | refine qT rfl ?_ | refine qF rfl ?_ | ((first | refine qR rfl ?_ | refine qK ?_ | refine qE ?_ | refine qW ?_ | refine qM ?_); try simp -dsimp (maxSteps := 2000000) (disch := first | omega | (simp only [qZ] <;> omega) | fail) only [push_cast, ↓qP, ↓reduceIte, seval, f0, f2, f3, f8, c1, hl2, r1, hC.blk.rdc, r2, c2, hs0, hc0]) | (refine qA ?_ ?_; (first | omega | (simp only [qL]; omega) | (simp only [qD] at *; omega))))
    have hmu : mu mark' (i + 1) t < mu mark' (i + 1) (t ++ [x]) := by unfold mu; simp
    exact Again.mk (mu mark' (i + 1) t) ⟨t, at', mark', A', cap', some ⟨g, 0, none⟩, capT, rfl, by omega, by simp [upd, f0], by simp [upd, f2], by simp [upd, f3], by simp [upd], hT2, hTf, hC, hE.skip hin, hal, hkw, hA'⟩ hmu
  have hnin : ¬ In (vis mark' (i + 1)) x := by
    rw [In_vis, List.getElem?_eq_getElem hxm]
    intro e
    simp [List.getD_eq_getElem?_getD, List.getElem?_eq_getElem hxm] at c2
    exact c2 (by injection e)
  have hs0 : (if (capT : Int) = 0 then some (⟨g, 0, none⟩ : Addr) else some ((⟨g, 0, none⟩ : Addr).add 0)) = some ⟨g, 0, none⟩ := by rw [if_neg hcapp, Addr.add_plain]
  have hc0 : ((capT : Int) - 0).toNat = capT := by omega
  have hfl : ∀ b, Cfoot a mk A b → w0.heap.size ≤ b := fun b hb => by
    rcases hb with rfl | rfl | hb
    · exact hlow.1
    · exact hlow.2.1
    · exact hlow.2.2 b hb
  have hkW : Kp (fun _ => False) w0 W := hk0.trans' hkw (fun b hb e => by have := hfl b e; omega)
  obtain ⟨mp', Am, capm, xs, hv, hDm, hmb, hmo, hmA, hms⟩ := hm.Kp (D' := D) hkW (fun _ _ => id) (fun _ h => h)
  injection hv with hv
  injection hv with hv
  injection hv with hv
  subst hv
  obtain ⟨gm, rfl, hgm, _⟩ := hmo.some (by omega)
  have hDg := hD _ (hmA gm rfl)
  have hDp := hD _ hDm
  have hget : M[x]? = some M[x] := List.getElem?_eq_getElem hx
  obtain ⟨cs, ⟨qs, hcs, hqs⟩, hxs⟩ := IsSts.get _ _ hms x M[x] hget
  subst hcs
  have hx4 : x * 4 + 3 < M.length * 4 := by omega
  have m0 : rdc W gm (x * 4) = some (.int .i64 M[x].kind) := by rw [hmo.rdc _ (by omega)]; exact hxs 0 (by omega)
  have m1 : rdc W gm (x * 4 + 1) = some (.pointer qs) := by rw [hmo.rdc _ (by omega)]; exact hxs 1 (by omega)
  have m2 : rdc W gm (x * 4 + 1 + 1) = some (.int .i64 M[x].a) := by rw [hmo.rdc _ (by omega)]; exact hxs 2 (by omega)
  have m3 : rdc W gm (x * 4 + 1 + 1 + 1) = some (.int .i64 M[x].b) := by rw [hmo.rdc _ (by omega)]; exact hxs 3 (by omega)
  have hmka : mk ≠ a := fun e => by have := hC.mkb.ne hC.blk (by decide); exact this e
  have hltp := hmb.lt
  have hmkp : mk ≠ mp := by omega
  have hmkg : mk ≠ gm := by omega
  refine Sm.out ?_
  repeat (first | ((fail_if_success (first | refine qY (n := 7) ?_ | refine qV (n := 7) ?_)); refine qS ?_) | refine qB ?_ | refine qT rfl ?_ | refine qF rfl ?_ | ((first | refine qR rfl ?_ | refine qK ?_ | refine qE ?_ | refine qW ?_ | refine qM ?_); try simp -dsimp (maxSteps := 2000000) (disch := first | omega | (simp only [qZ] <;> omega) | fail) only [push_cast, ↓qP, ↓reduceIte, seval, f0, f2, f3, f8, c1, hl2, r1, hC.blk.rdc, r2, c2, hs0, hc0, hC.mkb.fz, hmb.rdc, m0, m1, m2, m3]) | (refine qA ?_ ?_; (first | omega | (simp only [qL]; omega) | (simp only [qD] at *; omega))))
  obtain ⟨q, hq⟩ : ∃ q, q = W.heap.size := ⟨_, rfl⟩
  rw [← hq]
  have hkq : Kp (fun b => b = mk ∨ b = q) W (((W.setCell ⟨mk, x, none⟩ (.int .i64 ((i : Int) + 1))).alloc (.cells (List.toArray [.int .i64 0, .pointer none, .int .i64 0, .int .i64 0]) 104)).setCells q 0 [.int .i64 M[x].kind, .pointer qs, .int .i64 M[x].a, .int .i64 M[x].b]) :=
    (((Kp.refl (fun b => b = mk ∨ b = q) W).setCell (p := ⟨mk, x, none⟩) (fun _ => .inl rfl) _).alloc _).setCells (fun _ => .inr rfl) _ _
  have hC2 : Cr (((W.setCell ⟨mk, x, none⟩ (.int .i64 ((i : Int) + 1))).alloc (.cells (List.toArray [.int .i64 0, .pointer none, .int .i64 0, .int .i64 0]) 104)).setCells q 0 [.int .i64 M[x].kind, .pointer qs, .int .i64 M[x].a, .int .i64 M[x].b]) a mp M.length at' (mark'.set x ((i : Int) + 1)) mk A' cap' :=
    ⟨hkq.Blk hC.blk (by omega), hC.own.Kp hkq (fun g hg e => by
      rcases e with e | e
      · exact hC.dis (e ▸ hg)
      · have := hC.own.lt hg; omega), Blk.farCells (by omega) _ _ _ ((by have := hC.mkb.set x (.int .i64 ((i : Int) + 1)); rw [ints_set] at this; exact this : Blk _ mk 3 _).alloc _), by rw [List.length_set]; exact hC.len, hC.dis⟩
  have hq2 : Blk (((W.setCell ⟨mk, x, none⟩ (.int .i64 ((i : Int) + 1))).alloc (.cells (List.toArray [.int .i64 0, .pointer none, .int .i64 0, .int .i64 0]) 104)).setCells q 0 [.int .i64 M[x].kind, .pointer qs, .int .i64 M[x].a, .int .i64 M[x].b]) q 104 [.int .i64 M[x].kind, .pointer qs, .int .i64 M[x].a, .int .i64 M[x].b] :=
    Blk.setAll (cs := [.int .i64 0, .pointer none, .int .i64 0, .int .i64 0]) (by have := Blk.new (W.setCell ⟨mk, x, none⟩ (.int .i64 ((i : Int) + 1))) 104 [.int .i64 0, .pointer none, .int .i64 0, .int .i64 0]; rw [World.size_setCell, ← hq] at this; exact this) rfl
  have hT3 := hT2.Kp hkq (fun g' hg' e => by simp [bk] at hg'; omega)
  have hkw2 : Kp (Cfoot a mk A) w (((W.setCell ⟨mk, x, none⟩ (.int .i64 ((i : Int) + 1))).alloc (.cells (List.toArray [.int .i64 0, .pointer none, .int .i64 0, .int .i64 0]) 104)).setCells q 0 [.int .i64 M[x].kind, .pointer qs, .int .i64 M[x].a, .int .i64 M[x].b]) := hkw.trans' hkq (fun j hj e => by
    rcases e with rfl | rfl
    · exact .inr (.inl rfl)
    · have := hkw.size; omega)
  refine Wp.gen (A := fun W2 => Cr W2 a mp M.length at' (mark'.set x ((i : Int) + 1)) mk A' cap' ∧ Blk W2 q 104 [.int .i64 M[x].kind, .pointer qs, .int .i64 M[x].a, .int .i64 M[x].b] ∧ Own W2 3 1 (some ⟨g, 0, none⟩) t.length capT (nats t) ∧ Kp (Cfoot a mk A) w W2) ⟨hC2, hq2, hT3, hkw2⟩ ?_
  have hgq : g ≠ q := by omega
  have hmw := hkw.size
  have hqw : w.heap.size ≤ q := by omega
  clear hC2 hq2 hT3 hkw2 hkq hT2 hT r2 r1 m0 m1 m2 m3 hmb hmo hms hxs hC hkW hkw
  rintro W2 ⟨hC, hqb, hT, hkw⟩
  have hcnt := cnt_lt (a := vis mark' (i + 1)) (b := vis (mark'.set x ((i : Int) + 1)) (i + 1)) (by rw [vis_len, vis_len, List.length_set]) (fun y hy => (In_vis_set hxm y).2 (.inr hy)) (fun e => hnin (by rw [e]; exact (In_vis_set hxm x).2 (.inl rfl)))
  have hcl := cnt_le (vis (mark'.set x ((i : Int) + 1)) (i + 1))
  rw [vis_len, List.length_set, hE.len] at hcl
  have hltq := hqb.lt
  have hlta := hC.blk.lt
  have hgo := fun ys at2 => hE.go (x := x) (ys := ys) (at' := at2) hw hnin
  have hmu := fun ys (h : ys.length ≤ 2) => mu_go (mark := mark') (x := x) (p := (i : Int) + 1) (todo := t) (ys := ys) hnin hxm h
  have hMx : ∀ st, M[x]? = some st → st = M[x] := fun st h => by rw [hget] at h; injection h with h; exact h.symm
  by_cases k1 : M[x].kind = 1
  · have c3 : (M[x].kind == 1) = true := by rw [k1]; rfl
    have hys : ∀ y, y ∈ [M[x].b, M[x].a] ↔ Eps M i n x y := fun y => by
      constructor
      · intro hy
        simp at hy
        exact ⟨_, hget, .inl ⟨k1, hy.symm⟩⟩
      · rintro ⟨st, h1, h2⟩
        rw [hMx st h1] at h2
        rcases h2 with ⟨_, h2⟩ | ⟨h2, _⟩ | ⟨h2, _⟩
        · simpa using h2.symm
        · omega
        · omega
    have hat : ∀ y, y ∈ at' ↔ y ∈ at' ∨ (y = x ∧ Leaf M x) := fun y => by
      constructor
      · exact .inl
      · rintro (h | ⟨_, st, h1, h2⟩)
        · exact h
        · rw [hMx st h1] at h2; omega
    repeat (first | refine qS ?_ | refine qB ?_ | refine qT rfl ?_ | refine qF rfl ?_ | ((first | refine qR rfl ?_ | refine qK ?_ | refine qE ?_ | refine qW ?_ | refine qM ?_); try simp -dsimp (maxSteps := 2000000) (disch := first | omega | (simp only [qZ] <;> omega) | fail) only [push_cast, ↓qP, ↓reduceIte, seval, f0, f2, f3, hqb.rdc, c3]) | (refine qA ?_ ?_; (first | omega | (simp only [qL]; omega) | (simp only [qD] at *; omega))))
    refine V_append (m := 2) _ _ _ rfl mk_123 rfl (hT.alloc _) rfl [.int .i64 (M[x].b : Int), .int .i64 (M[x].a : Int)] ?r rfl (by omega) (by omega) ?kk
    case r => simp -dsimp (maxSteps := 2000000) (disch := first | omega | (simp only [qZ] <;> omega) | fail) only [push_cast, ↓qP, ↓reduceIte, seval]
    case kk =>
      intro T' capT' W3 hT' hgrow hat'
      refine Sm.out ?_
      repeat (first | refine qS ?_ | refine qB ?_ | refine qT rfl ?_ | refine qF rfl ?_ | ((first | refine qR rfl ?_ | refine qK ?_ | refine qE ?_ | refine qW ?_ | refine qM ?_); try simp -dsimp (maxSteps := 2000000) (disch := first | omega | (simp only [qZ] <;> omega) | fail) only [push_cast, ↓qP, ↓reduceIte, seval, f0, f2, f3]) | (refine qA ?_ ?_; (first | omega | (simp only [qL]; omega) | (simp only [qD] at *; omega))))
      have hg1 := hgrow.size
      simp at hg1
      have hkg : Kp (fun b => b = g) W2 W3 := ((Kp.refl (fun b => b = g) W2).alloc _).grown hgrow (fun k hk _ => by simp [bk] at hk; exact hk.symm)
      have hTf' : ∀ g', bk T' = some g' → w.heap.size ≤ g' ∧ bk A' ≠ some g' := fun g' hg' => by
        rcases hat' with e | e
        · rw [e] at hg'; exact hTf g' hg'
        · rw [e] at hg'
          simp at hg'
          refine ⟨by omega, fun e2 => ?_⟩
          have := hC.own.lt e2
          omega
      have hC3 : Cr W3 a mp M.length at' (mark'.set x ((i : Int) + 1)) mk A' cap' := hC.Kp hkg (fun b hb e => by
        rcases hb with hb | hb | hb
        · omega
        · omega
        · exact hgf.2 (by rw [← e]; exact hb))
      have hkw3 : Kp (Cfoot a mk A) w W3 := hkw.trans' hkg (fun j hj e => by omega)
      have hl3 : (t ++ [M[x].b, M[x].a]).length = t.length + 2 := by simp
      exact Again.mk (mu (mark'.set x ((i : Int) + 1)) (i + 1) (t ++ [M[x].b, M[x].a])) ⟨t ++ [M[x].b, M[x].a], at', mark'.set x ((i : Int) + 1), A', cap', T', capT', rfl, by have := hmu [M[x].b, M[x].a] (by simp); omega, by simp [upd, f0], by simp [upd, f2], by simp [upd, f3], by simp [upd], by rw [hl3, nats_append]; exact hT', hTf', hC3, hgo [M[x].b, M[x].a] at' hys hat, by omega, hkw3, hA'⟩ (hmu [M[x].b, M[x].a] (by simp))
  have c3 : (M[x].kind == 1) = false := by simpa using k1
  by_cases k23 : (M[x].kind = 2 ∧ i = 0) ∨ (M[x].kind = 3 ∧ i = n)
  · have hys : ∀ y, y ∈ [M[x].a] ↔ Eps M i n x y := fun y => by
      constructor
      · intro hy
        simp at hy
        rcases k23 with ⟨h1, h2⟩ | ⟨h1, h2⟩
        · exact ⟨_, hget, .inr (.inl ⟨h1, h2, hy⟩)⟩
        · exact ⟨_, hget, .inr (.inr ⟨h1, h2, hy⟩)⟩
      · rintro ⟨st, h1, h2⟩
        rw [hMx st h1] at h2
        rcases h2 with ⟨h2, _⟩ | ⟨_, _, h2⟩ | ⟨_, _, h2⟩
        · exact absurd h2 k1
        · simpa using h2
        · simpa using h2
    have hat : ∀ y, y ∈ at' ↔ y ∈ at' ∨ (y = x ∧ Leaf M x) := fun y => by
      constructor
      · exact .inl
      · rintro (h | ⟨_, st, h1, h2⟩)
        · exact h
        · rw [hMx st h1] at h2; omega
    rcases k23 with ⟨h1, h2⟩ | ⟨h1, h2⟩
    · have c4 : (M[x].kind == 2) = true := by rw [h1]; rfl
      have c5 : ((i : Int) == 0) = true := by rw [h2]; rfl
      repeat (first | refine qS ?_ | refine qB ?_ | refine qT rfl ?_ | refine qF rfl ?_ | ((first | refine qR rfl ?_ | refine qK ?_ | refine qE ?_ | refine qW ?_ | refine qM ?_); try simp -dsimp (maxSteps := 2000000) (disch := first | omega | (simp only [qZ] <;> omega) | fail) only [push_cast, ↓qP, ↓reduceIte, seval, f0, f2, f3, hqb.rdc, c3, c4, c5]) | (refine qA ?_ ?_; (first | omega | (simp only [qL]; omega) | (simp only [qD] at *; omega))))
      refine V_append (m := 1) _ _ _ rfl mk_123 rfl (hT.alloc _) rfl [.int .i64 (M[x].a : Int)] ?r rfl (by omega) (by omega) ?kk
      case r => simp -dsimp (maxSteps := 2000000) (disch := first | omega | (simp only [qZ] <;> omega) | fail) only [push_cast, ↓qP, ↓reduceIte, seval]
      case kk =>
        intro T' capT' W3 hT' hgrow hat'
        refine Sm.out ?_
        repeat (first | refine qS ?_ | refine qB ?_ | refine qT rfl ?_ | refine qF rfl ?_ | ((first | refine qR rfl ?_ | refine qK ?_ | refine qE ?_ | refine qW ?_ | refine qM ?_); try simp -dsimp (maxSteps := 2000000) (disch := first | omega | (simp only [qZ] <;> omega) | fail) only [push_cast, ↓qP, ↓reduceIte, seval, f0, f2, f3]) | (refine qA ?_ ?_; (first | omega | (simp only [qL]; omega) | (simp only [qD] at *; omega))))
        have hg1 := hgrow.size
        simp at hg1
        have hkg : Kp (fun b => b = g) W2 W3 := ((Kp.refl (fun b => b = g) W2).alloc _).grown hgrow (fun k hk _ => by simp [bk] at hk; exact hk.symm)
        have hTf' : ∀ g', bk T' = some g' → w.heap.size ≤ g' ∧ bk A' ≠ some g' := fun g' hg' => by
          rcases hat' with e | e
          · rw [e] at hg'; exact hTf g' hg'
          · rw [e] at hg'
            simp at hg'
            refine ⟨by omega, fun e2 => ?_⟩
            have := hC.own.lt e2
            omega
        have hC3 : Cr W3 a mp M.length at' (mark'.set x ((i : Int) + 1)) mk A' cap' := hC.Kp hkg (fun b hb e => by
          rcases hb with hb | hb | hb
          · omega
          · omega
          · exact hgf.2 (by rw [← e]; exact hb))
        have hkw3 : Kp (Cfoot a mk A) w W3 := hkw.trans' hkg (fun j hj e => by omega)
        have hl3 : (t ++ [M[x].a]).length = t.length + 1 := by simp
        exact Again.mk (mu (mark'.set x ((i : Int) + 1)) (i + 1) (t ++ [M[x].a])) ⟨t ++ [M[x].a], at', mark'.set x ((i : Int) + 1), A', cap', T', capT', rfl, by have := hmu [M[x].a] (by simp); omega, by simp [upd, f0], by simp [upd, f2], by simp [upd, f3], by simp [upd], by rw [hl3, nats_append]; exact hT', hTf', hC3, hgo [M[x].a] at' hys hat, by omega, hkw3, hA'⟩ (hmu [M[x].a] (by simp))
    · have c4 : (M[x].kind == 2) = false := by rw [h1]; rfl
      have c5 : (M[x].kind == 3) = true := by rw [h1]; rfl
      have c6 : ((i : Int) == (n : Int)) = true := by rw [h2]; simp
      repeat (first | refine qS ?_ | refine qB ?_ | refine qT rfl ?_ | refine qF rfl ?_ | ((first | refine qR rfl ?_ | refine qK ?_ | refine qE ?_ | refine qW ?_ | refine qM ?_); try simp -dsimp (maxSteps := 2000000) (disch := first | omega | (simp only [qZ] <;> omega) | fail) only [push_cast, ↓qP, ↓reduceIte, seval, f0, f2, f3, hqb.rdc, c3, c4, c5, c6]) | (refine qA ?_ ?_; (first | omega | (simp only [qL]; omega) | (simp only [qD] at *; omega))))
      refine V_append (m := 1) _ _ _ rfl mk_123 rfl (hT.alloc _) rfl [.int .i64 (M[x].a : Int)] ?r rfl (by omega) (by omega) ?kk
      case r => simp -dsimp (maxSteps := 2000000) (disch := first | omega | (simp only [qZ] <;> omega) | fail) only [push_cast, ↓qP, ↓reduceIte, seval]
      case kk =>
        intro T' capT' W3 hT' hgrow hat'
        refine Sm.out ?_
        repeat (first | refine qS ?_ | refine qB ?_ | refine qT rfl ?_ | refine qF rfl ?_ | ((first | refine qR rfl ?_ | refine qK ?_ | refine qE ?_ | refine qW ?_ | refine qM ?_); try simp -dsimp (maxSteps := 2000000) (disch := first | omega | (simp only [qZ] <;> omega) | fail) only [push_cast, ↓qP, ↓reduceIte, seval, f0, f2, f3]) | (refine qA ?_ ?_; (first | omega | (simp only [qL]; omega) | (simp only [qD] at *; omega))))
        have hg1 := hgrow.size
        simp at hg1
        have hkg : Kp (fun b => b = g) W2 W3 := ((Kp.refl (fun b => b = g) W2).alloc _).grown hgrow (fun k hk _ => by simp [bk] at hk; exact hk.symm)
        have hTf' : ∀ g', bk T' = some g' → w.heap.size ≤ g' ∧ bk A' ≠ some g' := fun g' hg' => by
          rcases hat' with e | e
          · rw [e] at hg'; exact hTf g' hg'
          · rw [e] at hg'
            simp at hg'
            refine ⟨by omega, fun e2 => ?_⟩
            have := hC.own.lt e2
            omega
        have hC3 : Cr W3 a mp M.length at' (mark'.set x ((i : Int) + 1)) mk A' cap' := hC.Kp hkg (fun b hb e => by
          rcases hb with hb | hb | hb
          · omega
          · omega
          · exact hgf.2 (by rw [← e]; exact hb))
        have hkw3 : Kp (Cfoot a mk A) w W3 := hkw.trans' hkg (fun j hj e => by omega)
        have hl3 : (t ++ [M[x].a]).length = t.length + 1 := by simp
        exact Again.mk (mu (mark'.set x ((i : Int) + 1)) (i + 1) (t ++ [M[x].a])) ⟨t ++ [M[x].a], at', mark'.set x ((i : Int) + 1), A', cap', T', capT', rfl, by have := hmu [M[x].a] (by simp); omega, by simp [upd, f0], by simp [upd, f2], by simp [upd, f3], by simp [upd], by rw [hl3, nats_append]; exact hT', hTf', hC3, hgo [M[x].a] at' hys hat, by omega, hkw3, hA'⟩ (hmu [M[x].a] (by simp))
  have hys : ∀ y, y ∈ ([] : List Nat) ↔ Eps M i n x y := fun y => by
    constructor
    · intro hy; cases hy
    · rintro ⟨st, h1, h2⟩
      rw [hMx st h1] at h2
      exfalso
      rcases h2 with ⟨h2, _⟩ | ⟨h2, h3, _⟩ | ⟨h2, h3, _⟩
      · exact k1 h2
      · exact k23 (.inl ⟨h2, h3⟩)
      · exact k23 (.inr ⟨h2, h3⟩)
  by_cases k04 : M[x].kind = 0 ∨ M[x].kind = 4
  · have hat : ∀ y, y ∈ at' ++ [x] ↔ y ∈ at' ∨ (y = x ∧ Leaf M x) := fun y => by
      simp only [List.mem_append, List.mem_singleton]
      constructor
      · rintro (h | h)
        · exact .inl h
        · exact .inr ⟨h, _, hget, k04⟩
      · rintro (h | ⟨h, _⟩)
        · exact .inl h
        · exact .inr h
    have c4 : (M[x].kind == 2) = false := by rcases k04 with h | h <;> rw [h] <;> rfl
    have c5 : (M[x].kind == 3) = false := by rcases k04 with h | h <;> rw [h] <;> rfl
    rcases k04 with h0 | h0
    · have c6 : (M[x].kind == 0) = true := by rw [h0]; rfl
      repeat (first | refine qS ?_ | refine qB ?_ | refine qT rfl ?_ | refine qF rfl ?_ | ((first | refine qR rfl ?_ | refine qK ?_ | refine qE ?_ | refine qW ?_ | refine qM ?_); try simp -dsimp (maxSteps := 2000000) (disch := first | omega | (simp only [qZ] <;> omega) | fail) only [push_cast, ↓qP, ↓reduceIte, seval, f0, f2, f3, hqb.rdc, c3, c4, c5, c6, hC.blk.rdc]) | (refine qA ?_ ?_; (first | omega | (simp only [qL]; omega) | (simp only [qD] at *; omega))))
      refine V_append (m := 1) _ _ _ rfl mk_123 rfl (hC.own.alloc _) rfl [.int .i64 (x : Int)] ?r rfl (by omega) (by omega) ?kk
      case r => simp -dsimp (maxSteps := 2000000) (disch := first | omega | (simp only [qZ] <;> omega) | fail) only [push_cast, ↓qP, ↓reduceIte, seval]
      case kk =>
        intro A2 cap2 W3 hA2 hgrow hat2
        have hg1 := hgrow.size
        simp at hg1
        have hka : Kp (fun b => bk A' = some b) W2 W3 := ((Kp.refl (fun b => bk A' = some b) W2).alloc _).grown hgrow (fun k hk _ => hk)
        have hAa : bk A' ≠ some a := hC.own.ne_blk hC.blk (by decide)
        have hb3 := hka.Blk hC.blk hAa
        have hm3 := hka.Blk hC.mkb hC.dis
        have hlt3 := hb3.lt
        have hnew : ∀ b, b < W2.heap.size → bk A' ≠ some b → bk A2 ≠ some b := fun b hb hb2 => by
          rcases hat2 with e | e <;> rw [e]
          · exact hb2
          · simp; omega
        refine Sm.out ?_
        repeat (first | refine qS ?_ | refine qB ?_ | refine qT rfl ?_ | refine qF rfl ?_ | ((first | refine qR rfl ?_ | refine qK ?_ | refine qE ?_ | refine qW ?_ | refine qM ?_); try simp -dsimp (maxSteps := 2000000) (disch := first | omega | (simp only [qZ] <;> omega) | fail) only [push_cast, ↓qP, ↓reduceIte, seval, f0, f2, f3, hb3.rdc, hb3.fz]) | (refine qA ?_ ?_; (first | omega | (simp only [qL]; omega) | (simp only [qD] at *; omega))))
        have hl3 : (at' ++ [x]).length = at'.length + 1 := by simp
        have hks : Kp (fun b => b = a) W3 (W3.setCell ⟨a, 1, none⟩ (.slice A2 (at'.length + 1) cap2)) := (Kp.refl (fun b => b = a) W3).setCell (p := ⟨a, 1, none⟩) (fun _ => rfl) _
        have hC4 : Cr (W3.setCell ⟨a, 1, none⟩ (.slice A2 (at'.length + 1) cap2)) a mp M.length (at' ++ [x]) (mark'.set x ((i : Int) + 1)) mk A2 cap2 :=
          ⟨by rw [hl3]; exact hb3.set 1 _, by rw [hl3, nats_append]; exact hA2.far (p := ⟨a, 1, none⟩) (hnew a hlta hAa) _, hm3.far (p := ⟨a, 1, none⟩) hmka _, hC.len, hnew mk hC.mkb.lt hC.dis⟩
        have hT4 := (hT.Kp hka (fun g' hg' e => by simp [bk] at hg'; subst hg'; exact hgf.2 e)).Kp hks (fun g' hg' e => by simp [bk] at hg'; omega)
        have hgl := hT.lt (g := g) rfl
        have hkw4 : Kp (Cfoot a mk A) w (W3.setCell ⟨a, 1, none⟩ (.slice A2 (at'.length + 1) cap2)) := (hkw.trans' hka (fun j hj e => by
          rcases hA' j e with h | h
          · exact .inr (.inr h)
          · omega)).trans' hks (fun j hj e => .inl e)
        have hA4 : ∀ g', bk A2 = some g' → bk A = some g' ∨ w.heap.size ≤ g' := fun g' hg' => by
          rcases hat2 with e | e
          · rw [e] at hg'; exact hA' g' hg'
          · rw [e] at hg'; simp at hg'; have := hkw.size; right; omega
        exact Again.mk (mu (mark'.set x ((i : Int) + 1)) (i + 1) (t ++ [])) ⟨t ++ [], at' ++ [x], mark'.set x ((i : Int) + 1), A2, cap2, some ⟨g, 0, none⟩, capT, rfl, by have := hmu [] (by simp); omega, by simp [upd, f0], by simp [upd, f2], by simp [upd, f3], by simp [upd], by rw [List.append_nil]; exact hT4, fun g' hg' => by simp [bk] at hg'; subst hg'; exact ⟨hgf.1, hnew g hgl hgf.2⟩, hC4, hgo [] _ hys hat, by omega, hkw4, hA4⟩ (hmu [] (by simp))
    · have c6 : (M[x].kind == 0) = false := by rw [h0]; rfl
      have c7 : (M[x].kind == 4) = true := by rw [h0]; rfl
      repeat (first | refine qS ?_ | refine qB ?_ | refine qT rfl ?_ | refine qF rfl ?_ | ((first | refine qR rfl ?_ | refine qK ?_ | refine qE ?_ | refine qW ?_ | refine qM ?_); try simp -dsimp (maxSteps := 2000000) (disch := first | omega | (simp only [qZ] <;> omega) | fail) only [push_cast, ↓qP, ↓reduceIte, seval, f0, f2, f3, hqb.rdc, c3, c4, c5, c6, c7, hC.blk.rdc]) | (refine qA ?_ ?_; (first | omega | (simp only [qL]; omega) | (simp only [qD] at *; omega))))
      refine V_append (m := 1) _ _ _ rfl mk_123 rfl (hC.own.alloc _) rfl [.int .i64 (x : Int)] ?r rfl (by omega) (by omega) ?kk
      case r => simp -dsimp (maxSteps := 2000000) (disch := first | omega | (simp only [qZ] <;> omega) | fail) only [push_cast, ↓qP, ↓reduceIte, seval]
      case kk =>
        intro A2 cap2 W3 hA2 hgrow hat2
        have hg1 := hgrow.size
        simp at hg1
        have hka : Kp (fun b => bk A' = some b) W2 W3 := ((Kp.refl (fun b => bk A' = some b) W2).alloc _).grown hgrow (fun k hk _ => hk)
        have hAa : bk A' ≠ some a := hC.own.ne_blk hC.blk (by decide)
        have hb3 := hka.Blk hC.blk hAa
        have hm3 := hka.Blk hC.mkb hC.dis
        have hlt3 := hb3.lt
        have hnew : ∀ b, b < W2.heap.size → bk A' ≠ some b → bk A2 ≠ some b := fun b hb hb2 => by
          rcases hat2 with e | e <;> rw [e]
          · exact hb2
          · simp; omega
        refine Sm.out ?_
        repeat (first | refine qS ?_ | refine qB ?_ | refine qT rfl ?_ | refine qF rfl ?_ | ((first | refine qR rfl ?_ | refine qK ?_ | refine qE ?_ | refine qW ?_ | refine qM ?_); try simp -dsimp (maxSteps := 2000000) (disch := first | omega | (simp only [qZ] <;> omega) | fail) only [push_cast, ↓qP, ↓reduceIte, seval, f0, f2, f3, hb3.rdc, hb3.fz]) | (refine qA ?_ ?_; (first | omega | (simp only [qL]; omega) | (simp only [qD] at *; omega))))
        have hl3 : (at' ++ [x]).length = at'.length + 1 := by simp
        have hks : Kp (fun b => b = a) W3 (W3.setCell ⟨a, 1, none⟩ (.slice A2 (at'.length + 1) cap2)) := (Kp.refl (fun b => b = a) W3).setCell (p := ⟨a, 1, none⟩) (fun _ => rfl) _
        have hC4 : Cr (W3.setCell ⟨a, 1, none⟩ (.slice A2 (at'.length + 1) cap2)) a mp M.length (at' ++ [x]) (mark'.set x ((i : Int) + 1)) mk A2 cap2 :=
          ⟨by rw [hl3]; exact hb3.set 1 _, by rw [hl3, nats_append]; exact hA2.far (p := ⟨a, 1, none⟩) (hnew a hlta hAa) _, hm3.far (p := ⟨a, 1, none⟩) hmka _, hC.len, hnew mk hC.mkb.lt hC.dis⟩
        have hT4 := (hT.Kp hka (fun g' hg' e => by simp [bk] at hg'; subst hg'; exact hgf.2 e)).Kp hks (fun g' hg' e => by simp [bk] at hg'; omega)
        have hgl := hT.lt (g := g) rfl
        have hkw4 : Kp (Cfoot a mk A) w (W3.setCell ⟨a, 1, none⟩ (.slice A2 (at'.length + 1) cap2)) := (hkw.trans' hka (fun j hj e => by
          rcases hA' j e with h | h
          · exact .inr (.inr h)
          · omega)).trans' hks (fun j hj e => .inl e)
        have hA4 : ∀ g', bk A2 = some g' → bk A = some g' ∨ w.heap.size ≤ g' := fun g' hg' => by
          rcases hat2 with e | e
          · rw [e] at hg'; exact hA' g' hg'
          · rw [e] at hg'; simp at hg'; have := hkw.size; right; omega
        exact Again.mk (mu (mark'.set x ((i : Int) + 1)) (i + 1) (t ++ [])) ⟨t ++ [], at' ++ [x], mark'.set x ((i : Int) + 1), A2, cap2, some ⟨g, 0, none⟩, capT, rfl, by have := hmu [] (by simp); omega, by simp [upd, f0], by simp [upd, f2], by simp [upd, f3], by simp [upd], by rw [List.append_nil]; exact hT4, fun g' hg' => by simp [bk] at hg'; subst hg'; exact ⟨hgf.1, hnew g hgl hgf.2⟩, hC4, hgo [] _ hys hat, by omega, hkw4, hA4⟩ (hmu [] (by simp))
  have c0 : (M[x].kind == 0) = false := by simpa using fun h => k04 (.inl h)
  have c04 : (M[x].kind == 4) = false := by simpa using fun h => k04 (.inr h)
  have hat : ∀ y, y ∈ at' ↔ y ∈ at' ∨ (y = x ∧ Leaf M x) := fun y => by
    constructor
    · exact .inl
    · rintro (h | ⟨_, st, h1, h2⟩)
      · exact h
      · rw [hMx st h1] at h2; exact absurd h2 k04
  rcases Bool.eq_false_or_eq_true (M[x].kind == 2) with c4 | c4
  · have hk2 : M[x].kind = 2 := by simpa using c4
    have c5 : ((i : Int) == 0) = false := by
      have : i ≠ 0 := fun h => k23 (.inl ⟨hk2, h⟩)
      simpa using this
    have c6 : (M[x].kind == 3) = false := by rw [hk2]; rfl
    repeat (first | refine qS ?_ | refine qB ?_ | refine qT rfl ?_ | refine qF rfl ?_ | ((first | refine qR rfl ?_ | refine qK ?_ | refine qE ?_ | refine qW ?_ | refine qM ?_); try simp -dsimp (maxSteps := 2000000) (disch := first | omega | (simp only [qZ] <;> omega) | fail) only [push_cast, ↓qP, ↓reduceIte, seval, f0, f2, f3, hqb.rdc, c3, c4, c5, c6, c0, c04]) | (refine qA ?_ ?_; (first | omega | (simp only [qL]; omega) | (simp only [qD] at *; omega))))
    exact Again.mk (mu (mark'.set x ((i : Int) + 1)) (i + 1) (t ++ [])) ⟨t ++ [], at', mark'.set x ((i : Int) + 1), A', cap', some ⟨g, 0, none⟩, capT, rfl, by have := hmu [] (by simp); omega, by simp [upd, f0], by simp [upd, f2], by simp [upd, f3], by simp [upd], by rw [List.append_nil]; exact hT, hTf, hC, hgo [] at' hys hat, by omega, hkw, hA'⟩ (hmu [] (by simp))
  · rcases Bool.eq_false_or_eq_true (M[x].kind == 3) with c5 | c5
    · have hk3 : M[x].kind = 3 := by simpa using c5
      have c6 : ((i : Int) == (n : Int)) = false := by
        have : i ≠ n := fun h => k23 (.inr ⟨hk3, h⟩)
        simp; omega
      repeat (first | refine qS ?_ | refine qB ?_ | refine qT rfl ?_ | refine qF rfl ?_ | ((first | refine qR rfl ?_ | refine qK ?_ | refine qE ?_ | refine qW ?_ | refine qM ?_); try simp -dsimp (maxSteps := 2000000) (disch := first | omega | (simp only [qZ] <;> omega) | fail) only [push_cast, ↓qP, ↓reduceIte, seval, f0, f2, f3, hqb.rdc, c3, c4, c5, c6, c0, c04]) | (refine qA ?_ ?_; (first | omega | (simp only [qL]; omega) | (simp only [qD] at *; omega))))
      exact Again.mk (mu (mark'.set x ((i : Int) + 1)) (i + 1) (t ++ [])) ⟨t ++ [], at', mark'.set x ((i : Int) + 1), A', cap', some ⟨g, 0, none⟩, capT, rfl, by have := hmu [] (by simp); omega, by simp [upd, f0], by simp [upd, f2], by simp [upd, f3], by simp [upd], by rw [List.append_nil]; exact hT, hTf, hC, hgo [] at' hys hat, by omega, hkw, hA'⟩ (hmu [] (by simp))
    · repeat (first | refine qS ?_ | refine qB ?_ | refine qT rfl ?_ | refine qF rfl ?_ | ((first | refine qR rfl ?_ | refine qK ?_ | refine qE ?_ | refine qW ?_ | refine qM ?_); try simp -dsimp (maxSteps := 2000000) (disch := first | omega | (simp only [qZ] <;> omega) | fail) only [push_cast, ↓qP, ↓reduceIte, seval, f0, f2, f3, hqb.rdc, c3, c4, c5, c0, c04]) | (refine qA ?_ ?_; (first | omega | (simp only [qL]; omega) | (simp only [qD] at *; omega))))
      exact Again.mk (mu (mark'.set x ((i : Int) + 1)) (i + 1) (t ++ [])) ⟨t ++ [], at', mark'.set x ((i : Int) + 1), A', cap', some ⟨g, 0, none⟩, capT, rfl, by have := hmu [] (by simp); omega, by simp [upd, f0], by simp [upd, f2], by simp [upd, f3], by simp [upd], by rw [List.append_nil]; exact hT, hTf, hC, hgo [] at' hys hat, by omega, hkw, hA'⟩ (hmu [] (by simp))
end
end Go.Proofs.Ytddichibegppjaa

/- The machine runs: longest. -/
namespace Go.Proofs.Ytddichibegppjaa
open Go Go.VC

section
variable {w0 w : World} {D : Nat → Prop} {M : List St4} {start mp i0 : Nat} {l : List UInt8}

theorem zeros_ints (n : Nat) : zeros [.int .i64 0] n = ints (List.replicate n 0) := by simp [zeros_one, ints]

/-- A crowd that is new. -/
theorem Cr.new {W : World} {a mk : Nat} (N : Nat) (ha : Blk W a 125 [.pointer (some ⟨mp, 0, none⟩), .slice none 0 0, .slice (some ⟨mk, 0, none⟩) N N]) (hm : Blk W mk 3 (zeros [.int .i64 0] N)) : Cr W a mp N [] (List.replicate N 0) mk none 0 :=
  ⟨ha, Own.nil _ _ _, by rw [← zeros_ints]; exact hm, by simp, by simp [bk]⟩

theorem al0 {W : World} {o1 o2 o3 : Obj} {t : Nat} {cs : List Value} : Blk ((((W.alloc (.cells cs.toArray t)).alloc o1).alloc o2).alloc o3) W.heap.size t cs := (((Blk.new W t cs).alloc _).alloc _).alloc _
theorem al1 {W : World} {o0 o2 o3 : Obj} {t : Nat} {cs : List Value} : Blk ((((W.alloc o0).alloc (.cells cs.toArray t)).alloc o2).alloc o3) (W.heap.size + 1) t cs := by
  have := ((Blk.new (W.alloc o0) t cs).alloc o2).alloc o3
  rwa [World.size_alloc] at this
theorem al2 {W : World} {o0 o1 o3 : Obj} {t : Nat} {cs : List Value} : Blk ((((W.alloc o0).alloc o1).alloc (.cells cs.toArray t)).alloc o3) (W.heap.size + 1 + 1) t cs := by
  have := (Blk.new ((W.alloc o0).alloc o1) t cs).alloc o3
  rwa [World.size_alloc, World.size_alloc] at this
theorem al3 {W : World} {o0 o1 o2 : Obj} {t : Nat} {cs : List Value} : Blk ((((W.alloc o0).alloc o1).alloc o2).alloc (.cells cs.toArray t)) (W.heap.size + 1 + 1 + 1) t cs := by
  have := Blk.new (((W.alloc o0).alloc o1).alloc o2) t cs
  rwa [World.size_alloc, World.size_alloc, World.size_alloc] at this

/-- Two crowds that run. -/
structure Rn (w W : World) (a b mp N : Nat) (at_ : List Nat) (mark : List Int) (ma : Nat) (A : Option Addr) (capA : Nat) (at2 : List Nat) (mark2 : List Int) (mb : Nat) (B : Option Addr) (capB : Nat) : Prop where
  c1 : Cr W a mp N at_ mark ma A capA
  c2 : Cr W b mp N at2 mark2 mb B capB
  dj : ∀ x, Cfoot a ma A x → ¬ Cfoot b mb B x
  l1 : ∀ x, Cfoot a ma A x → w.heap.size ≤ x
  l2 : ∀ x, Cfoot b mb B x → w.heap.size ≤ x
  kp : VC.Kp (fun _ => False) w W
theorem Cr.foot_lt {W : World} {a mp N mk cap : Nat} {at_ : List Nat} {mark : List Int} {A : Option Addr} (h : Cr W a mp N at_ mark mk A cap) : ∀ x, Cfoot a mk A x → x < W.heap.size := fun x hx => by
  rcases hx with rfl | rfl | hx
  · exact h.blk.lt
  · exact h.mkb.lt
  · exact h.own.lt hx
section
variable {w W W2 : World} {a b mp N ma mb capA capB : Nat} {at_ at2 : List Nat} {mark mark2 : List Int} {A B : Option Addr}
theorem Rn.keep0 (h : Rn w W a b mp N at_ mark ma A capA at2 mark2 mb B capB) (hk : Kp (fun _ => False) W W2) : Rn w W2 a b mp N at_ mark ma A capA at2 mark2 mb B capB :=
  ⟨h.c1.Kp hk (fun _ _ => id), h.c2.Kp hk (fun _ _ => id), h.dj, h.l1, h.l2, h.kp.trans hk⟩
theorem Rn.drew (h : Rn w W a b mp N at_ mark ma A capA at2 mark2 mb B capB) : Rn w W.drew a b mp N at_ mark ma A capA at2 mark2 mb B capB := h.keep0 (Kp.refl _ W).drew
theorem Rn.swap (h : Rn w W a b mp N at_ mark ma A capA at2 mark2 mb B capB) : Rn w W b a mp N at2 mark2 mb B capB at_ mark ma A capA :=
  ⟨h.c2, h.c1, fun x h1 h2 => h.dj x h2 h1, h.l2, h.l1, h.kp⟩
/-- The second one is entered. -/
theorem Rn.enter (h : Rn w W a b mp N at_ mark ma A capA at2 mark2 mb B capB) {at3 : List Nat} {mark3 : List Int} {B3 : Option Addr} {cap3 : Nat} (hc : Cr W2 b mp N at3 mark3 mb B3 cap3) (hk : Kp (Cfoot b mb B) W W2) (hB : ∀ g, bk B3 = some g → bk B = some g ∨ W.heap.size ≤ g) :
    Rn w W2 a b mp N at_ mark ma A capA at3 mark3 mb B3 cap3 := by
  have hW := h.kp.size
  refine ⟨h.c1.Kp hk (fun x hx e => h.dj x hx e), hc, fun x h1 h2 => ?_, h.l1, fun x hx => ?_, h.kp.trans' hk (fun i hi e => by have := h.l2 i e; omega)⟩
  · rcases h2 with h2 | h2 | h2
    · exact h.dj x h1 (.inl h2)
    · exact h.dj x h1 (.inr (.inl h2))
    · rcases hB x h2 with h3 | h3
      · exact h.dj x h1 (.inr (.inr h3))
      · have := h.c1.foot_lt x h1; omega
  · rcases hx with h2 | h2 | h2
    · exact h.l2 x (.inl h2)
    · exact h.l2 x (.inr (.inl h2))
    · rcases hB x h2 with h3 | h3
      · exact h.l2 x (.inr (.inr h3))
      · omega
/-- The second one is emptied. -/
theorem Rn.empty (h : Rn w W a b mp N at_ mark ma A capA at2 mark2 mb B capB) : Rn w (W.setCell ⟨b, 1, none⟩ (.slice B 0 capB)) a b mp N at_ mark ma A capA [] mark2 mb B capB := by
  have hk : Kp (· = b) W (W.setCell ⟨b, 1, none⟩ (.slice B 0 capB)) := (Kp.refl (· = b) W).setCell (p := ⟨b, 1, none⟩) (fun _ => rfl) _
  have hBb : bk B ≠ some b := h.c2.own.ne_blk h.c2.blk (by decide)
  have hmb : mb ≠ b := h.c2.mkb.ne h.c2.blk (by decide)
  refine ⟨h.c1.Kp hk (fun x hx e => h.dj x hx (.inl e)), ⟨h.c2.blk.set 1 _, ?_, hk.Blk h.c2.mkb hmb, h.c2.len, h.c2.dis⟩, h.dj, h.l1, h.l2, h.kp.trans' hk (fun i hi e => by have := h.l2 i (.inl e); omega)⟩
  have := (h.c2.own.Kp hk (fun g hg e => hBb (e ▸ hg))).cut 0 (Nat.zero_le _)
  simpa [nats] using this
end

theorem longest_any (hm : IsMach w0 D M start (.pointer (some ⟨mp, 0, none⟩))) (hD : ∀ b, D b → b < w0.heap.size) (hk0 : Kp (fun _ => False) w0 w) (hw : Ws M) (hst : start < M.length) (hN : M.length ≤ 100000000) (hl : l.length ≤ 1000000) (hi : i0 ≤ l.length) :
    Calls Try.prog 61 #[.pointer (some ⟨mp, 0, none⟩), .string (B l), .int .i64 i0] w fun e w' => ∃ x ok, e = .returned (.tuple #[.int .i64 (x : Nat), .bool ok]) ∧ Lg M l start i0 x ok ∧ Kp (fun _ => False) w w' := by
  obtain ⟨mp', Am, capm, xs, hv, hDm, hmb, hmo, hmA, hms⟩ := hm.Kp (D' := D) hk0 (fun _ _ => id) (fun _ h => h)
  injection hv with hv
  injection hv with hv
  injection hv with hv
  subst hv
  have hltp := hmb.lt
  refine enter (n := 109) (args := [.pointer (some ⟨mp, 0, none⟩), .string (B l), .int .i64 (i0 : Int)]) Try.func61 rfl rfl rfl (by simp) ?_
  refine Wp.seq (Wp.region rfl ?_)
  simp -dsimp (maxSteps := 2000000) (disch := first | omega | (simp only [qZ] <;> omega) | fail) only [push_cast, ↓qP, ↓reduceIte, seval]
  refine Wp.cut (fun F W => ∃ a b ma mb, F 0 = .pointer (some ⟨mp, 0, none⟩) ∧ F 1 = .string (B l) ∧ F 2 = .int .i64 (i0 : Int) ∧ F 8 = .pointer (some ⟨a, 0, none⟩) ∧ F 9 = .pointer (some ⟨b, 0, none⟩) ∧ w.heap.size ≤ a ∧ w.heap.size ≤ b ∧ w.heap.size ≤ ma ∧ w.heap.size ≤ mb ∧ a ≠ b ∧ ma ≠ mb ∧
    Cr W a mp M.length [] (List.replicate M.length 0) ma none 0 ∧ Cr W b mp M.length [] (List.replicate M.length 0) mb none 0 ∧ Kp (fun _ => False) w W) ?_ ?_
  · refine Wp.draw [0, 0, 2, 6, 14, 30, 62, 127, 255, 0, 0, 1024, 3072, 7168, 15360, 31744, 65024, 130560, 511, 524287] [6, 8, 15, 17] (.op 0 false false [] <| .op 1 false false [] <| .op 2 false false [] <| .op 3 false false [] <| .op 4 false true [] <| .op 5 false false [] <| .op 9 false false [] <| .op 10 false false [] <| .op 11 false false [] <| .op 12 false false [] <| .op 13 false true [] <| .op 14 false false [] <| .two 6 15 [4] [13] (.op 7 false false [] <| .two 8 15 [] [13] (.op 18 false false [] <| .op 15 true false [13] <| .op 16 false false [] <| .op 17 true false [] <| .op 19 false false [] <| .nil) (.op 16 false false [] <| .two 8 17 [] [] (.op 18 false false [] <| .op 17 true false [] <| .op 19 false false [] <| .nil) (.op 8 true false [] <| .op 18 false false [] <| .op 19 false false [] <| .nil))) (.op 16 false false [] <| .two 6 17 [4] [] (.op 7 false false [] <| .two 8 17 [] [] (.op 18 false false [] <| .op 17 true false [] <| .op 19 false false [] <| .nil) (.op 8 true false [] <| .op 18 false false [] <| .op 19 false false [] <| .nil)) (.op 6 true false [4] <| .op 7 false false [] <| .op 8 true false [] <| .op 18 false false [] <| .op 19 false false [] <| .nil))) mixed (by kernel_rfl) ?_
    simp -dsimp (maxSteps := 2000000) (disch := first | omega | (simp only [qZ] <;> omega) | fail) only [push_cast, ↓qP, ↓reduceIte, seval, hmb.rdc]
    have hkp4 : ∀ o0 o1 o2 o3, Kp (fun _ => False) w ((((w.drew.alloc o0).alloc o1).alloc o2).alloc o3) := fun o0 o1 o2 o3 => (((((Kp.refl _ w).drew.alloc o0).alloc o1).alloc o2).alloc o3)
    repeat' (refine And.intro ?_ ?_)
    all_goals first
      | omega
      | exact Mid.mk ⟨(w.heap.size + 1), (w.heap.size + 1 + 1 + 1), (w.heap.size), (w.heap.size + 1 + 1), rfl, rfl, rfl, rfl, rfl, by omega, by omega, by omega, by omega, by omega, by omega, Cr.new _ (al1 (W := w.drew)) (al0 (W := w.drew)), Cr.new _ (al3 (W := w.drew)) (al2 (W := w.drew)), hkp4 _ _ _ _⟩
      | exact Mid.mk ⟨(w.heap.size + 1 + 1), (w.heap.size + 1 + 1 + 1), (w.heap.size), (w.heap.size + 1), rfl, rfl, rfl, rfl, rfl, by omega, by omega, by omega, by omega, by omega, by omega, Cr.new _ (al2 (W := w.drew)) (al0 (W := w.drew)), Cr.new _ (al3 (W := w.drew)) (al1 (W := w.drew)), hkp4 _ _ _ _⟩
      | exact Mid.mk ⟨(w.heap.size + 1 + 1 + 1), (w.heap.size + 1 + 1), (w.heap.size), (w.heap.size + 1), rfl, rfl, rfl, rfl, rfl, by omega, by omega, by omega, by omega, by omega, by omega, Cr.new _ (al3 (W := w.drew)) (al0 (W := w.drew)), Cr.new _ (al2 (W := w.drew)) (al1 (W := w.drew)), hkp4 _ _ _ _⟩
      | exact Mid.mk ⟨(w.heap.size + 1 + 1), (w.heap.size + 1 + 1 + 1), (w.heap.size + 1), (w.heap.size), rfl, rfl, rfl, rfl, rfl, by omega, by omega, by omega, by omega, by omega, by omega, Cr.new _ (al2 (W := w.drew)) (al1 (W := w.drew)), Cr.new _ (al3 (W := w.drew)) (al0 (W := w.drew)), hkp4 _ _ _ _⟩
      | exact Mid.mk ⟨(w.heap.size + 1 + 1 + 1), (w.heap.size + 1 + 1), (w.heap.size + 1), (w.heap.size), rfl, rfl, rfl, rfl, rfl, by omega, by omega, by omega, by omega, by omega, by omega, Cr.new _ (al3 (W := w.drew)) (al1 (W := w.drew)), Cr.new _ (al2 (W := w.drew)) (al0 (W := w.drew)), hkp4 _ _ _ _⟩
      | exact Mid.mk ⟨(w.heap.size + 1 + 1 + 1), (w.heap.size + 1), (w.heap.size + 1 + 1), (w.heap.size), rfl, rfl, rfl, rfl, rfl, by omega, by omega, by omega, by omega, by omega, by omega, Cr.new _ (al3 (W := w.drew)) (al2 (W := w.drew)), Cr.new _ (al1 (W := w.drew)) (al0 (W := w.drew)), hkp4 _ _ _ _⟩
  rintro F W ⟨a, b, ma, mb, f0, f1, f2, f8, f9, la, lb, lma, lmb, hab, hmm, ca, cb, kW⟩
  have hamb : a ≠ mb := fun e => ca.blk.ne cb.mkb (by decide) e
  have hmab : ma ≠ b := fun e => ca.mkb.ne cb.blk (by decide) e
  have hR : Rn w W a b mp M.length [] (List.replicate M.length 0) ma none 0 [] (List.replicate M.length 0) mb none 0 :=
    ⟨ca, cb, (by
      intro x h1 h2
      rcases h1 with h1 | h1 | h1 <;> rcases h2 with h2 | h2 | h2 <;> first | omega | (cases h1; done) | (cases h2; done)), (by
      intro x h1
      rcases h1 with h1 | h1 | h1 <;> first | omega | (cases h1; done)), (by
      intro x h1
      rcases h1 with h1 | h1 | h1 <;> first | omega | (cases h1; done)), kW⟩
  clear ca cb
  have hsz0 := hk0.size
  have hrep : ∀ (x : Nat) (p : Int), (List.replicate M.length (0 : Int))[x]? = some p → p = 0 := fun x p h => by
    rw [List.getElem?_replicate] at h
    split at h
    · injection h with h; exact h.symm
    · cases h
  have hnv : ∀ x, ¬ In (vis (List.replicate M.length 0) ((i0 : Int) + 1)) x := fun x h => by
    rw [In_vis] at h
    have := hrep x _ h
    omega
  have hmbW := kW.Blk hmb id
  have hltpW := hmbW.lt
  repeat (first | refine qS ?_ | refine qB ?_ | refine qT rfl ?_ | refine qF rfl ?_ | ((first | refine qR rfl ?_ | refine qK ?_ | refine qE ?_ | refine qW ?_ | refine qM ?_); try simp -dsimp (maxSteps := 2000000) (disch := first | omega | (simp only [qZ] <;> omega) | fail) only [push_cast, ↓qP, ↓reduceIte, seval, f0, f1, f2, f8, f9, hmbW.rdc]) | (refine qA ?_ ?_; (first | omega | (simp only [qL]; omega) | (simp only [qD] at *; omega))))
  refine CallV.of isCall_76 (enter_any (n := l.length) hm hD (hk0.trans kW) hw hR.c1 ⟨by omega, by omega, fun g hg => by cases hg⟩ ⟨fun x y h => absurd h (hnv x), fun x => ⟨fun h => (by cases h), fun h => absurd h.1 (hnv x)⟩⟩ hst hN (by omega) (by simp)) ?_
  rintro _ W2 ⟨rfl, at1, mark1, A1, cap1, c1, ⟨e1, e2, e3⟩, e4, k1, e5⟩
  have hR2 := (hR.swap.enter c1 k1 e5).swap
  have hv1 : ∀ x, In (vis mark1 ((i0 : Int) + 1)) x ↔ Rc M l start i0 x i0 := fun x => by
    rw [e2, Rc.here]
    constructor
    · rintro (h | h)
      · exact absurd h (hnv x)
      · exact h
    · exact .inr
  have hm1 : ∀ (x : Nat) (p : Int), mark1[x]? = some p → p ≤ (i0 : Int) + 1 := fun x p h => by
    rcases e3 x with h1 | h1
    · rw [h1] at h; have := hrep x p h; omega
    · rw [h1] at h; injection h with h; omega
  clear hR c1 k1 e5 hmm hab hamb hmab la lb lma lmb kW e2 e3
  refine Sm.out ?_
  repeat (first | refine qS ?_ | refine qB ?_ | refine qT rfl ?_ | refine qF rfl ?_ | ((first | refine qR rfl ?_ | refine qK ?_ | refine qE ?_ | refine qW ?_ | refine qM ?_); try simp -dsimp (maxSteps := 2000000) (disch := first | omega | (simp only [qZ] <;> omega) | fail) only [push_cast, ↓qP, ↓reduceIte, seval, f0, f1, f2, f8, f9]) | (refine qA ?_ ?_; (first | omega | (simp only [qL]; omega) | (simp only [qD] at *; omega))))
  refine Wp.loop (α := Nat) (fun u F W => ∃ a b ma mb i at_ mark A capA mark2 Bo capB e ok, u = l.length + 1 - i ∧ i0 ≤ i ∧ i ≤ l.length + 1 ∧ F 0 = .pointer (some ⟨mp, 0, none⟩) ∧ F 1 = .string (B l) ∧ F 8 = .pointer (some ⟨a, 0, none⟩) ∧ F 9 = .pointer (some ⟨b, 0, none⟩) ∧ F 10 = .int .i64 (e : Nat) ∧ F 11 = .bool ok ∧ F 12 = .int .i64 (i : Nat) ∧
      Rn w W a b mp M.length at_ mark ma A capA [] mark2 mb Bo capB ∧ Hide (∀ x, In (vis mark ((i : Int) + 1)) x ↔ Rc M l start i0 x i) ∧ Hide (∀ x, x ∈ at_ ↔ In (vis mark ((i : Int) + 1)) x ∧ Leaf M x) ∧ Hide (∀ (x : Nat) (p : Int), mark[x]? = some p → p ≤ (i : Int) + 1) ∧ Hide (∀ (x : Nat) (p : Int), mark2[x]? = some p → p ≤ (i : Int)) ∧
      at_.length ≤ M.length ∧ Hide (Lp M l start i0 i e ok)) (fun u => u) (l.length + 1 - i0)
    ⟨a, b, ma, mb, i0, at1, mark1, A1, cap1, List.replicate M.length 0, none, 0, 0, false, rfl, Nat.le_refl _, by omega, by simp [upd, f0], by simp [upd, f1], by simp [upd, f8], by simp [upd, f9], by simp [upd], by simp [upd], by simp [upd], hR2, ⟨hv1⟩, ⟨e1.2⟩, ⟨hm1⟩, ⟨fun x p h => by have := hrep x p h; omega⟩, ?_, ⟨Lp.start⟩⟩ ?_
  · have := cnt_le (vis mark1 ((i0 : Int) + 1))
    rw [vis_len, hR2.c1.len] at this
    omega
  clear hR2 hv1 hm1 e1 e4 hnv hrep f0 f1 f2 f8 f9 hmbW hltpW
  rintro u F W ⟨a, b, ma, mb, i, at_, mark, A, capA, mark2, Bo, capB, e, ok, rfl, hi0, hil, f0, f1, f8, f9, f10, f11, f12, hR, hv, hat, hm1, hm2, hal, hlp⟩
  have hltb := hR.c1.blk.lt
  rcases Nat.eq_zero_or_pos at_.length with h0 | h0
  · have hnil := List.eq_nil_of_length_eq_zero h0
    have c1 : decide ((at_.length : Int) > 0) = false := decide_eq_false (by omega)
    repeat (first | refine qS ?_ | refine qB ?_ | refine qT rfl ?_ | refine qF rfl ?_ | ((first | refine qR rfl ?_ | refine qK ?_ | refine qE ?_ | refine qW ?_ | refine qM ?_); try simp -dsimp (maxSteps := 2000000) (disch := first | omega | (simp only [qZ] <;> omega) | fail) only [push_cast, ↓qP, ↓reduceIte, seval, f0, f1, f8, f9, f10, f11, f12, hR.c1.blk.rdc, c1]) | (refine qA ?_ ?_; (first | omega | (simp only [qL]; omega) | (simp only [qD] at *; omega))))
    refine Ret.mk ⟨e, ok, rfl, hlp.out.stop hi0 (fun x h1 h2 => ?_), hR.kp⟩
    have := (hat.out x).2 ⟨(hv.out x).2 h1, h2⟩
    rw [hnil] at this
    cases this
  have c1 : decide ((at_.length : Int) > 0) = true := decide_eq_true (by omega)
  repeat (first | refine qS ?_ | refine qB ?_ | refine qT rfl ?_ | refine qF rfl ?_ | ((first | refine qR rfl ?_ | refine qK ?_ | refine qE ?_ | refine qW ?_ | refine qM ?_); try simp -dsimp (maxSteps := 2000000) (disch := first | omega | (simp only [qZ] <;> omega) | fail) only [push_cast, ↓qP, ↓reduceIte, seval, f0, f1, f8, f9, f10, f11, f12, hR.c1.blk.rdc, c1]) | (refine qA ?_ ?_; (first | omega | (simp only [qL]; omega) | (simp only [qD] at *; omega))))
  have hkl : ∀ k, k ∈ at_ → ∃ st, M[k]? = some st ∧ (st.kind = 0 ∨ st.kind = 4) := fun k hk => ((hat.out k).1 hk).2
  replace hkl : Hide _ := ⟨hkl⟩
  have hRk := hR.kp.size
  refine Wp.loop (α := Nat) (fun u F W => ∃ j at2 mark2 Bo capB dn, u = at_.length - j ∧ j ≤ at_.length ∧ F 0 = .pointer (some ⟨mp, 0, none⟩) ∧ F 1 = .string (B l) ∧ F 8 = .pointer (some ⟨a, 0, none⟩) ∧ F 9 = .pointer (some ⟨b, 0, none⟩) ∧ F 10 = .int .i64 ((if dn = true then i else e : Nat) : Int) ∧ F 11 = .bool (ok || dn) ∧ F 12 = .int .i64 (i : Nat) ∧
      F 55 = .slice A at_.length capA ∧ F 56 = .int .i64 (at_.length : Int) ∧ F 57 = .int .i64 (j : Int) ∧ Rn w W a b mp M.length at_ mark ma A capA at2 mark2 mb Bo capB ∧ Hide (dn = true ↔ ∃ k ∈ at_.take j, Dn M k) ∧
      Hide (∀ x, In (vis mark2 (((i + 1 : Nat) : Int) + 1)) x ↔ ∃ k ∈ at_.take j, ∃ y, Eat M l i k y ∧ EpsR M (i + 1) l.length y x) ∧ Hide (Cwd M (i + 1) l.length at2 mark2) ∧ at2.length ≤ cnt (vis mark2 (((i + 1 : Nat) : Int) + 1)) ∧ Hide (∀ (x : Nat) (p : Int), mark2[x]? = some p → p ≤ (i : Int) + 2)) (fun u => u) at_.length
    ⟨0, [], mark2, Bo, capB, false, rfl, Nat.zero_le _, by simp [upd, f0], by simp [upd, f1], by simp [upd, f8], by simp [upd, f9], by simp [upd, f10], by simp [upd, f11], by simp [upd, f12], by simp [upd], by simp [upd], by simp [upd], hR, ⟨by simp⟩, ⟨fun x => ?_⟩, ⟨fun x y h => ?_, fun x => ?_⟩, by simp, ⟨fun x p h => by have := hm2.out x p h; omega⟩⟩ ?_
  · constructor
    · intro h; rw [In_vis] at h; have := hm2.out x _ h; omega
    · rintro ⟨k, hk, _⟩; simp at hk
  · rw [In_vis] at h; have := hm2.out x _ h; omega
  · constructor
    · intro h; cases h
    · rintro ⟨h, _⟩; rw [In_vis] at h; have := hm2.out x _ h; omega
  clear f0 f1 f8 f9 f10 f11 f12 hR hm2 hltb
  rintro u F W2 ⟨j, at2, mark3, Bo2, capB2, dn, rfl, hj, f0, f1, f8, f9, f10, f11, f12, f55, f56, f57, hR, hdn, hv2, hcw2, hal2, hm3⟩
  rcases Nat.lt_or_ge j at_.length with hlt | hge
  · have c2 : decide ((j : Int) < (at_.length : Int)) = true := decide_eq_true (by omega)
    obtain ⟨g, rfl, hg, _⟩ := hR.c1.own.some (by omega)
    have r1 : rdc W2 g j = some (.int .i64 (at_[j] : Int)) := by
      rw [hR.c1.own.rdc j (by omega)]
      simp [nats, List.getElem?_eq_getElem hlt]
    obtain ⟨st, hst, hk04⟩ := hkl.out _ (List.getElem_mem hlt)
    have hkx : at_[j] < M.length := (List.getElem?_eq_some_iff.1 hst).1
    obtain ⟨mp', Am, capm, xs, hv', hDm, hmb, hmo, hmA, hms⟩ := hm.Kp (D' := D) (hk0.trans hR.kp) (fun _ _ => id) (fun _ h => h)
    injection hv' with hv'
    injection hv' with hv'
    injection hv' with hv'
    subst hv'
    obtain ⟨gm, rfl, hgm, _⟩ := hmo.some (by omega)
    obtain ⟨cs, ⟨qs, hcs, hqs⟩, hxs⟩ := IsSts.get _ _ hms at_[j] st hst
    subst hcs
    have hx4 : at_[j] * 4 + 3 < M.length * 4 := by omega
    have m0 : rdc W2 gm (at_[j] * 4) = some (.int .i64 st.kind) := by rw [hmo.rdc _ (by omega)]; exact hxs 0 (by omega)
    have m1 : rdc W2 gm (at_[j] * 4 + 1) = some (.pointer qs) := by rw [hmo.rdc _ (by omega)]; exact hxs 1 (by omega)
    have m2 : rdc W2 gm (at_[j] * 4 + 1 + 1) = some (.int .i64 st.a) := by rw [hmo.rdc _ (by omega)]; exact hxs 2 (by omega)
    have m3 : rdc W2 gm (at_[j] * 4 + 1 + 1 + 1) = some (.int .i64 st.b) := by rw [hmo.rdc _ (by omega)]; exact hxs 3 (by omega)
    have hltp := hmb.lt
    have htk : at_.take (j + 1) = at_.take j ++ [at_[j]] := List.take_succ_eq_append_getElem hlt
    generalize hkj : at_[j] = k at *
    have hws := hw k st hst
    replace hk04 : Hide _ := ⟨hk04⟩
    refine Sm.out ?_
    repeat (first | ((fail_if_success (first | refine qY (n := 11) ?_ | refine qV (n := 11) ?_)); refine qS ?_) | refine qB ?_ | refine qT rfl ?_ | refine qF rfl ?_ | ((first | refine qR rfl ?_ | refine qK ?_ | refine qE ?_ | refine qW ?_ | refine qM ?_); try simp -dsimp (maxSteps := 2000000) (disch := first | omega | (simp only [qZ] <;> omega) | fail) only [push_cast, ↓qP, ↓reduceIte, seval, f0, f1, f8, f9, f12, f55, f56, f57, c2, r1, hmb.rdc, m0, m1, m2, m3]) | (refine qA ?_ ?_; (first | omega | (simp only [qL]; omega) | (simp only [qD] at *; omega))))
    obtain ⟨q, hq⟩ : ∃ q, q = W2.heap.size := ⟨_, rfl⟩
    rw [← hq]
    have hkq : Kp (fun _ => False) W2 ((W2.alloc (.cells (List.toArray [.int .i64 0, .pointer none, .int .i64 0, .int .i64 0]) 104)).setCells q 0 [.int .i64 st.kind, .pointer qs, .int .i64 st.a, .int .i64 st.b]) := ((Kp.refl (fun _ => False) W2).alloc _).setCells (fun h => by omega) _ _
    refine Wp.gen (w := (W2.alloc (.cells (List.toArray [.int .i64 0, .pointer none, .int .i64 0, .int .i64 0]) 104)).setCells q 0 [.int .i64 st.kind, .pointer qs, .int .i64 st.a, .int .i64 st.b]) (A := fun W3 => Kp (fun _ => False) W2 W3 ∧ Blk W3 q 104 [.int .i64 st.kind, .pointer qs, .int .i64 st.a, .int .i64 st.b]) ⟨hkq, Blk.setAll (cs := [.int .i64 0, .pointer none, .int .i64 0, .int .i64 0]) (by rw [hq]; exact Blk.new W2 104 [.int .i64 0, .pointer none, .int .i64 0, .int .i64 0]) rfl⟩ ?_
    clear hkq r1 m0 m1 m2 m3 hxs hms hmo hmb
    rintro W3 ⟨hk3, hqb⟩
    have hR3 := hR.keep0 hk3
    have hltq := hqb.lt
    clear hR
    have hmem : ∀ (p : Nat → Prop), (∃ k' ∈ at_.take (j + 1), p k') ↔ (∃ k' ∈ at_.take j, p k') ∨ p k := fun p => by
      rw [htk]
      constructor
      · rintro ⟨k', h1, h2⟩
        rcases List.mem_append.1 h1 with h1 | h1
        · exact .inl ⟨k', h1, h2⟩
        · rw [List.mem_singleton] at h1; subst h1; exact .inr h2
      · rintro (⟨k', h1, h2⟩ | h)
        · exact ⟨k', List.mem_append.2 (.inl h1), h2⟩
        · exact ⟨k, List.mem_append.2 (.inr (by simp)), h⟩
    have hnoe : (∀ y, ¬ Eat M l i k y) → ∀ x, In (vis mark3 (((i + 1 : Nat) : Int) + 1)) x ↔ ∃ k ∈ at_.take (j + 1), ∃ y, Eat M l i k y ∧ EpsR M (i + 1) l.length y x := fun hno x => by
      rw [hmem, hv2.out x]
      constructor
      · exact .inl
      · rintro (h | ⟨y, h, _⟩)
        · exact h
        · exact absurd h (hno y)
    have hst' : ∀ st', M[k]? = some st' → st' = st := fun st' h => by rw [hst] at h; injection h with h; exact h.symm
    rcases hk04.out with h4 | h4
    rotate_left
    · have c3 : (st.kind == 4) = true := by rw [h4]; rfl
      have hv3 := hnoe (fun y ⟨st', h1, h2, _⟩ => by rw [hst' st' h1, h4] at h2; cases h2)
      have hd3 : true = true ↔ ∃ k ∈ at_.take (j + 1), Dn M k := ⟨fun _ => (hmem _).2 (.inr ⟨st, hst, h4⟩), fun _ => rfl⟩
      repeat (first | refine qS ?_ | refine qB ?_ | refine qT rfl ?_ | refine qF rfl ?_ | ((first | refine qR rfl ?_ | refine qK ?_ | refine qE ?_ | refine qW ?_ | refine qM ?_); try simp -dsimp (maxSteps := 2000000) (disch := first | omega | (simp only [qZ] <;> omega) | fail) only [push_cast, ↓qP, ↓reduceIte, seval, f0, f1, f8, f9, f10, f11, f12, f55, f56, f57, hqb.rdc, c3]) | (refine qA ?_ ?_; (first | omega | (simp only [qL]; omega) | (simp only [qD] at *; omega))))
      exact Again.mk (at_.length - (j + 1)) ⟨j + 1, at2, mark3, Bo2, capB2, true, rfl, by omega, by simp [upd, f0], by simp [upd, f1], by simp [upd, f8], by simp [upd, f9], by simp [upd, f12], by simp [upd], by simp [upd, f12], by simp [upd, f55], by simp [upd, f56], by simp [upd], hR3, ⟨hd3⟩, ⟨hv3⟩, hcw2, hal2, hm3⟩ (by omega)
    have c3 : (st.kind == 4) = false := by rw [h4]; rfl
    have hd3 : dn = true ↔ ∃ k ∈ at_.take (j + 1), Dn M k := by
      rw [hmem, hdn.out]
      constructor
      · exact .inl
      · rintro (h | ⟨st', h1, h2⟩)
        · exact h
        · rw [hst' st' h1, h4] at h2; cases h2
    replace hd3 : Hide _ := ⟨hd3⟩
    rcases Nat.lt_or_ge i l.length with hil2 | hil2
    · have c4 : decide ((i : Int) < (l.length : Int)) = true := decide_eq_true (by omega)
      obtain ⟨bq, rfl, hDq, hsl, hbs⟩ := hqs h4
      have hbs3 := hbs.Kp hk3
      have hltbq := hbs3.1
      have hby := (byteAt l i).toNat_lt
      have hby' : (l.getD i 0).toNat < 256 := hby
      have rb := hbs3.2 (byteAt l i).toNat (by omega)
      rcases Bool.eq_false_or_eq_true (st.set.getD (byteAt l i).toNat false) with c5 | c5
      · rw [c5] at rb
        have hea : Eat M l i k st.a := ⟨st, hst, h4, hil2, c5, rfl⟩
        refine Sm.out ?_
        repeat (first | ((fail_if_success (first | refine qY (n := 13) ?_ | refine qV (n := 13) ?_)); refine qS ?_) | refine qB ?_ | refine qT rfl ?_ | refine qF rfl ?_ | ((first | refine qR rfl ?_ | refine qK ?_ | refine qE ?_ | refine qW ?_ | refine qM ?_); try simp -dsimp (maxSteps := 2000000) (disch := first | omega | (simp only [qZ] <;> omega) | fail) only [push_cast, ↓qP, ↓reduceIte, seval, f0, f1, f8, f9, f10, f11, f12, hqb.rdc, c3]) | (refine qA ?_ ?_; (first | omega | (simp only [qL]; omega) | (simp only [qD] at *; omega))))
        refine Wp.seq (Wp.draw [0, 0, 2, 7, 15, 31, 63, 31, 31, 415, 127, 2047, 4095, 8191, 16383] [] (.op 0 false false [] <| .op 1 false false [] <| .op 2 false false [] <| .op 3 false false [] <| .op 4 false false [] <| .op 5 false false [] <| .op 6 false false [] <| .op 7 false false [] <| .op 8 false false [] <| .op 9 false false [] <| .op 10 false false [] <| .op 11 false false [] <| .op 12 false false [] <| .op 13 false false [] <| .op 14 false false [] <| .nil) mixed (by kernel_rfl) ?_)
        simp -dsimp (maxSteps := 2000000) (disch := first | omega | (simp only [qZ] <;> omega) | fail) only [push_cast, ↓qP, ↓reduceIte, seval, f1, f12, c4, hqb.rdc, rb]
        refine ⟨by omega, by omega, ?_⟩
        refine Sm.out ?_
        repeat (first | refine qS ?_ | refine qB ?_ | refine qT rfl ?_ | refine qF rfl ?_ | ((first | refine qR rfl ?_ | refine qK ?_ | refine qE ?_ | refine qW ?_ | refine qM ?_); try simp -dsimp (maxSteps := 2000000) (disch := first | omega | (simp only [qZ] <;> omega) | fail) only [push_cast, ↓qP, ↓reduceIte, seval, f0, f1, f8, f9, f10, f11, f12, f55, f56, f57, hqb.rdc]) | (refine qA ?_ ?_; (first | omega | (simp only [qL]; omega) | (simp only [qD] at *; omega))))
        have hR4 := hR3.drew
        have hlow4 : w0.heap.size ≤ b ∧ w0.heap.size ≤ mb ∧ ∀ g, bk Bo2 = some g → w0.heap.size ≤ g :=
          ⟨Nat.le_trans hsz0 (hR4.l2 b (.inl rfl)), Nat.le_trans hsz0 (hR4.l2 mb (.inr (.inl rfl))), fun g hg => Nat.le_trans hsz0 (hR4.l2 g (.inr (.inr hg)))⟩
        refine CallV.of isCall_76 (enter_any (i := i + 1) (n := l.length) hm hD (hk0.trans hR4.kp) hw hR4.c2 hlow4 hcw2.out hws.1 hN (by omega) hal2) ?_
        rintro _ W4 ⟨rfl, at3, mark4, Bo3, capB3, c1', ⟨g1, g2, g3⟩, g4, k4, g5⟩
        have hR5 := hR4.enter c1' k4 g5
        have hv3 : ∀ x, In (vis mark4 (((i + 1 : Nat) : Int) + 1)) x ↔ ∃ k ∈ at_.take (j + 1), ∃ y, Eat M l i k y ∧ EpsR M (i + 1) l.length y x := fun x => by
          rw [hmem, g2, hv2.out x]
          constructor
          · rintro (h | h)
            · exact .inl h
            · exact .inr ⟨st.a, hea, h⟩
          · rintro (h | ⟨y, ⟨st', h1, _, _, _, rfl⟩, h⟩)
            · exact .inl h
            · rw [hst' st' h1] at h; exact .inr h
        have hm4 : ∀ (x : Nat) (p : Int), mark4[x]? = some p → p ≤ (i : Int) + 2 := fun x p h => by
          rcases g3 x with h1 | h1
          · rw [h1] at h; exact hm3.out x p h
          · rw [h1] at h; injection h with h; omega
        clear g2 g3 c1' k4 g5 hR3 hR4 hlow4
        refine Sm.out ?_
        repeat (first | refine qS ?_ | refine qB ?_ | refine qT rfl ?_ | refine qF rfl ?_ | ((first | refine qR rfl ?_ | refine qK ?_ | refine qE ?_ | refine qW ?_ | refine qM ?_); try simp -dsimp (maxSteps := 2000000) (disch := first | omega | (simp only [qZ] <;> omega) | fail) only [push_cast, ↓qP, ↓reduceIte, seval, f0, f1, f8, f9, f10, f11, f12, f55, f56, f57]) | (refine qA ?_ ?_; (first | omega | (simp only [qL]; omega) | (simp only [qD] at *; omega))))
        exact Again.mk (at_.length - (j + 1)) ⟨j + 1, at3, mark4, Bo3, capB3, dn, rfl, by omega, by simp [upd, f0], by simp [upd, f1], by simp [upd, f8], by simp [upd, f9], by simp [upd, f10], by simp [upd, f11], by simp [upd, f12], by simp [upd, f55], by simp [upd, f56], by simp [upd], hR5, hd3, ⟨hv3⟩, ⟨g1⟩, g4, ⟨hm4⟩⟩ (by omega)
      · rw [c5] at rb
        have hv3 := hnoe (fun y ⟨st', h1, h2, h3, h5, _⟩ => by rw [hst' st' h1, c5] at h5; cases h5)
        refine Sm.out ?_
        repeat (first | ((fail_if_success (first | refine qY (n := 13) ?_ | refine qV (n := 13) ?_)); refine qS ?_) | refine qB ?_ | refine qT rfl ?_ | refine qF rfl ?_ | ((first | refine qR rfl ?_ | refine qK ?_ | refine qE ?_ | refine qW ?_ | refine qM ?_); try simp -dsimp (maxSteps := 2000000) (disch := first | omega | (simp only [qZ] <;> omega) | fail) only [push_cast, ↓qP, ↓reduceIte, seval, f0, f1, f8, f9, f10, f11, f12, hqb.rdc, c3]) | (refine qA ?_ ?_; (first | omega | (simp only [qL]; omega) | (simp only [qD] at *; omega))))
        refine Wp.seq (Wp.draw [0, 0, 2, 7, 15, 31, 63, 31, 31, 415, 127, 2047, 4095, 8191, 16383] [] (.op 0 false false [] <| .op 1 false false [] <| .op 2 false false [] <| .op 3 false false [] <| .op 4 false false [] <| .op 5 false false [] <| .op 6 false false [] <| .op 7 false false [] <| .op 8 false false [] <| .op 9 false false [] <| .op 10 false false [] <| .op 11 false false [] <| .op 12 false false [] <| .op 13 false false [] <| .op 14 false false [] <| .nil) mixed (by kernel_rfl) ?_)
        simp -dsimp (maxSteps := 2000000) (disch := first | omega | (simp only [qZ] <;> omega) | fail) only [push_cast, ↓qP, ↓reduceIte, seval, f1, f12, c4, hqb.rdc, rb]
        refine ⟨by omega, by omega, ?_⟩
        refine Sm.out ?_
        repeat (first | refine qS ?_ | refine qB ?_ | refine qT rfl ?_ | refine qF rfl ?_ | ((first | refine qR rfl ?_ | refine qK ?_ | refine qE ?_ | refine qW ?_ | refine qM ?_); try simp -dsimp (maxSteps := 2000000) (disch := first | omega | (simp only [qZ] <;> omega) | fail) only [push_cast, ↓qP, ↓reduceIte, seval, f0, f1, f8, f9, f10, f11, f12, f55, f56, f57]) | (refine qA ?_ ?_; (first | omega | (simp only [qL]; omega) | (simp only [qD] at *; omega))))
        exact Again.mk (at_.length - (j + 1)) ⟨j + 1, at2, mark3, Bo2, capB2, dn, rfl, by omega, by simp [upd, f0], by simp [upd, f1], by simp [upd, f8], by simp [upd, f9], by simp [upd, f10], by simp [upd, f11], by simp [upd, f12], by simp [upd, f55], by simp [upd, f56], by simp [upd], hR3.drew, hd3, ⟨hv3⟩, hcw2, hal2, hm3⟩ (by omega)
    · have c4 : decide ((i : Int) < (l.length : Int)) = false := decide_eq_false (by omega)
      have hv3 := hnoe (fun y ⟨st', h1, h2, h3, _⟩ => by omega)
      refine Sm.out ?_
      repeat (first | ((fail_if_success (first | refine qY (n := 13) ?_ | refine qV (n := 13) ?_)); refine qS ?_) | refine qB ?_ | refine qT rfl ?_ | refine qF rfl ?_ | ((first | refine qR rfl ?_ | refine qK ?_ | refine qE ?_ | refine qW ?_ | refine qM ?_); try simp -dsimp (maxSteps := 2000000) (disch := first | omega | (simp only [qZ] <;> omega) | fail) only [push_cast, ↓qP, ↓reduceIte, seval, f0, f1, f8, f9, f10, f11, f12, hqb.rdc, c3]) | (refine qA ?_ ?_; (first | omega | (simp only [qL]; omega) | (simp only [qD] at *; omega))))
      refine Wp.seq (Wp.draw [0, 0, 2, 7, 15, 31, 63, 31, 31, 415, 127, 2047, 4095, 8191, 16383] [] (.op 0 false false [] <| .op 1 false false [] <| .op 2 false false [] <| .op 3 false false [] <| .op 4 false false [] <| .op 5 false false [] <| .op 6 false false [] <| .op 7 false false [] <| .op 8 false false [] <| .op 9 false false [] <| .op 10 false false [] <| .op 11 false false [] <| .op 12 false false [] <| .op 13 false false [] <| .op 14 false false [] <| .nil) mixed (by kernel_rfl) ?_)
      simp -dsimp (maxSteps := 2000000) (disch := first | omega | (simp only [qZ] <;> omega) | fail) only [push_cast, ↓qP, ↓reduceIte, seval, f1, f12, c4, hqb.rdc]
      refine Sm.out ?_
      repeat (first | refine qS ?_ | refine qB ?_ | refine qT rfl ?_ | refine qF rfl ?_ | ((first | refine qR rfl ?_ | refine qK ?_ | refine qE ?_ | refine qW ?_ | refine qM ?_); try simp -dsimp (maxSteps := 2000000) (disch := first | omega | (simp only [qZ] <;> omega) | fail) only [push_cast, ↓qP, ↓reduceIte, seval, f0, f1, f8, f9, f10, f11, f12, f55, f56, f57]) | (refine qA ?_ ?_; (first | omega | (simp only [qL]; omega) | (simp only [qD] at *; omega))))
      exact Again.mk (at_.length - (j + 1)) ⟨j + 1, at2, mark3, Bo2, capB2, dn, rfl, by omega, by simp [upd, f0], by simp [upd, f1], by simp [upd, f8], by simp [upd, f9], by simp [upd, f10], by simp [upd, f11], by simp [upd, f12], by simp [upd, f55], by simp [upd, f56], by simp [upd], hR3.drew, hd3, ⟨hv3⟩, hcw2, hal2, hm3⟩ (by omega)
  · obtain rfl : j = at_.length := by omega
    have c2 : decide ((at_.length : Int) < (at_.length : Int)) = false := decide_eq_false (by omega)
    rw [List.take_length] at hdn hv2
    have hrc : ∀ x, x ∈ at_ ↔ Rc M l start i0 x i ∧ Leaf M x := fun x => by rw [hat.out x, hv.out x]
    obtain ⟨x0, hx0⟩ := List.exists_mem_of_length_pos h0
    have hil3 := ((hrc x0).1 hx0).1.le hi
    obtain ⟨g, rfl, hg, hcap, _⟩ := hR.c1.own.some h0
    have hs0 : (if (capA : Int) = 0 then some (⟨g, 0, none⟩ : Addr) else some ((⟨g, 0, none⟩ : Addr).add 0)) = some ⟨g, 0, none⟩ := by rw [if_neg (by omega), Addr.add_plain]
    have hc0 : ((capA : Int) - 0).toNat = capA := by omega
    have hlta := hR.c1.blk.lt
    have hvn : ∀ x, In (vis mark3 (((i + 1 : Nat) : Int) + 1)) x ↔ Rc M l start i0 x (i + 1) := fun x => by
      rw [hv2.out x, Rc.next hi0]
      constructor
      · rintro ⟨k, h1, y, h2, h3⟩; exact ⟨k, y, ((hrc k).1 h1).1, h2, h3⟩
      · rintro ⟨k, y, h1, h2, h3⟩
        refine ⟨k, (hrc k).2 ⟨h1, ?_⟩, y, h2, h3⟩
        obtain ⟨st, h4, h5, _⟩ := h2
        exact ⟨st, h4, .inl h5⟩
    have hlp2 := hlp.out.next hrc hdn.out
    have hal3 := cnt_le (vis mark3 (((i + 1 : Nat) : Int) + 1))
    rw [vis_len, hR.c2.len] at hal3
    have hRe := hR.swap.empty
    clear hrc hx0 hkl hv2 hlp hdn hat hv
    repeat (first | refine qS ?_ | refine qB ?_ | refine qT rfl ?_ | refine qF rfl ?_ | ((first | refine qR rfl ?_ | refine qK ?_ | refine qE ?_ | refine qW ?_ | refine qM ?_); try simp -dsimp (maxSteps := 2000000) (disch := first | omega | (simp only [qZ] <;> omega) | fail) only [push_cast, ↓qP, ↓reduceIte, seval, f0, f1, f8, f9, f10, f11, f12, f55, f56, f57, c2, hR.c1.blk.rdc, hR.c1.blk.fz, hs0, hc0]) | (refine qA ?_ ?_; (first | omega | (simp only [qL]; omega) | (simp only [qD] at *; omega))))
    exact Again.mk (l.length + 1 - (i + 1)) ⟨b, a, mb, ma, i + 1, at2, mark3, Bo2, capB2, mark, some ⟨g, 0, none⟩, capA, _, _, rfl, by omega, by omega, by simp [upd, f0], by simp [upd, f1], by simp [upd, f9], by simp [upd, f8], by simp [upd, f10], by simp [upd, f11], by simp [upd], hRe, ⟨hvn⟩, ⟨hcw2.out.2⟩, ⟨fun x p h => by have := hm3.out x p h; omega⟩, ⟨fun x p h => by have := hm1.out x p h; omega⟩, by omega, ⟨hlp2⟩⟩ (by omega)
end
end Go.Proofs.Ytddichibegppjaa

/- The machine runs: Find, Whole; they answer as the reference does. -/
namespace Go.Proofs.Ytddichibegppjaa
open Go Go.VC

theorem scan_some {x : List Bool} {i : Nat} : ∀ {k j : Nat}, i ≤ j → j < k → In x j → (∀ f, In x f → f < k → f ≤ j) → scan x i k = some j
  | 0, j, _, h, _, _ => by omega
  | k + 1, j, h1, h2, h3, h4 => by
    simp only [scan]
    rw [if_neg (by omega)]
    by_cases e : j = k
    · subst e; rw [if_pos (show x.getD j false = true from h3)]
    · have : ¬ x.getD k false = true := fun h => by have := h4 k h (by omega); omega
      rw [if_neg this]
      exact scan_some h1 (by omega) h3 (fun f hf hk => h4 f hf (by omega))
theorem scan_none {x : List Bool} {i : Nat} : ∀ {k : Nat}, (∀ f, i ≤ f → f < k → ¬ In x f) → scan x i k = none
  | 0, _ => rfl
  | k + 1, h => by
    simp only [scan]
    split
    · rfl
    · rename_i hk
      have : ¬ x.getD k false = true := h k (by omega) (by omega)
      rw [if_neg this]
      exact scan_none fun f h1 h2 => h f h1 (by omega)

theorem one_mt {l : List UInt8} {e : Re} (hg : Good e) {i : Nat} (hi : i ≤ l.length) (j : Nat) : In (ends3 l e ((noP l).set i true)) j ↔ Mt l e i j := by
  have hl : (noP l).length = l.length + 1 := by simp [noP]
  rw [(ends3_spec l e hg _ (by rw [List.length_set]; exact hl)).2 j]
  constructor
  · rintro ⟨i', h1, h2⟩
    rcases (In_set (by omega) i').1 h1 with ⟨h3, _⟩ | ⟨_, h3⟩
    · rw [← h3]; exact h2
    · exact absurd h3 (In_noP l i')
  · intro h
    exact ⟨i, (In_set (by omega) i).2 (.inl ⟨rfl, rfl⟩), h⟩
theorem mt_rc {l : List UInt8} {e : Re} (hg : Good e) (i j : Nat) : Mt l e i j ↔ ∃ d, Rc (new4 e).1 l (new4 e).2 i d j ∧ Dn (new4 e).1 d := by
  rw [← new_acc l e hg, acc_iff]
theorem mt_range {l : List UInt8} {e : Re} (hg : Good e) {i j : Nat} (hi : i ≤ l.length) (h : Mt l e i j) : i ≤ j ∧ j ≤ l.length := by
  obtain ⟨d, h1, _⟩ := (mt_rc hg i j).1 h
  exact ⟨h1.ge, h1.le hi⟩
theorem lg_scan {l : List UInt8} {e : Re} (hg : Good e) {i x : Nat} {ok : Bool} (hi : i ≤ l.length) (h : Lg (new4 e).1 l (new4 e).2 i x ok) : scan (ends3 l e ((noP l).set i true)) i (l.length + 1) = if ok = true then some x else none := by
  cases ok with
  | true =>
    rw [if_pos rfl]
    obtain ⟨h1, h2⟩ := h.1 rfl
    have hm := (mt_rc hg i x).2 h1
    have hr := mt_range hg hi hm
    refine scan_some hr.1 (by omega) ((one_mt hg hi x).2 hm) fun f hf hk => ?_
    obtain ⟨d, h3, h4⟩ := (mt_rc hg i f).1 ((one_mt hg hi f).1 hf)
    exact h2 f d h3 h4
  | false =>
    rw [if_neg (by simp)]
    refine scan_none fun f _ _ hf => ?_
    obtain ⟨d, h3, h4⟩ := (mt_rc hg i f).1 ((one_mt hg hi f).1 hf)
    exact (h.2 rfl).2 f d h3 h4

section
variable {w0 w : World} {D : Nat → Prop} {l : List UInt8} {e : Re} {v : Value}

theorem find4_any (hm : IsMach w0 D (new4 e).1 (new4 e).2 v) (hD : ∀ b, D b → b < w0.heap.size) (hk0 : Kp (fun _ => False) w0 w) (hg : Good e) (hN : (new4 e).1.length ≤ 100000000) (hl : l.length ≤ 1000000) (i : Int) (hi : -9223372036854775808 ≤ i ∧ i ≤ 9223372036854775807) :
    Calls Try.prog 28 #[v, .string (B l), .int .i64 i] w fun e' w' => e' = .returned (trip (findI e l i)) ∧ Kp (fun _ => False) w w' := by
  obtain ⟨mp, rfl⟩ : ∃ mp, v = .pointer (some ⟨mp, 0, none⟩) := by obtain ⟨b, _, _, _, h1, _⟩ := hm; exact ⟨b, h1⟩
  obtain ⟨b1, b2, b3, b4, b5⟩ := new_builds l e hg
  refine enter (n := 37) (args := [.pointer (some ⟨mp, 0, none⟩), .string (B l), .int .i64 i]) Try.func28 rfl rfl rfl (by simp) ?_
  rcases Bool.eq_false_or_eq_true (decide (i < 0)) with c0 | c0
  · have : findI e l i = none := by unfold findI; rw [if_pos (by simpa using c0)]
    rw [this]
    repeat (first | refine qS ?_ | refine qB ?_ | refine qT rfl ?_ | refine qF rfl ?_ | ((first | refine qR rfl ?_ | refine qK ?_ | refine qE ?_ | refine qW ?_ | refine qM ?_); try simp -dsimp (maxSteps := 2000000) (disch := first | omega | (simp only [qZ] <;> omega) | fail) only [push_cast, ↓qP, ↓reduceIte, seval, c0]) | (refine qA ?_ ?_; (first | omega | (simp only [qL]; omega) | (simp only [qD] at *; omega))))
    exact Ret.mk ⟨rfl, Kp.refl _ w⟩
  obtain ⟨n, rfl⟩ : ∃ n : Nat, i = n := ⟨i.toNat, by simp at c0; omega⟩
  have hfi : findI e l n = find3 e l (l.length + 1 - n) n := by unfold findI; rw [if_neg (by omega), Int.toNat_natCast]
  rw [hfi]
  obtain ⟨R, hR⟩ : ∃ R, find3 e l (l.length + 1 - n) n = R := ⟨_, rfl⟩
  rw [hR]
  repeat (first | refine qS ?_ | refine qB ?_ | refine qT rfl ?_ | refine qF rfl ?_ | ((first | refine qR rfl ?_ | refine qK ?_ | refine qE ?_ | refine qW ?_ | refine qM ?_); try simp -dsimp (maxSteps := 2000000) (disch := first | omega | (simp only [qZ] <;> omega) | fail) only [push_cast, ↓qP, ↓reduceIte, seval, c0]) | (refine qA ?_ ?_; (first | omega | (simp only [qL]; omega) | (simp only [qD] at *; omega))))
  refine Wp.loop (α := Nat) (fun f F W => ∃ i : Nat, F 0 = .pointer (some ⟨mp, 0, none⟩) ∧ F 1 = .string (B l) ∧ F 9 = .int .i64 i ∧ f = l.length + 1 - i ∧ Kp (fun _ => False) w W ∧ Hide (find3 e l f i = R)) (fun f => f) (l.length + 1 - n)
    ⟨n, by simp [upd, arg], by simp [upd, arg], by simp [upd, arg], rfl, Kp.refl _ w, ⟨hR⟩⟩ ?_
  clear c0 hfi hR hi
  rintro f F W ⟨i, f0, f1, f9, hf, k1, hst⟩
  rcases Nat.lt_or_ge l.length i with hgt | hle
  · have c1 : decide ((i : Int) ≤ (l.length : Int)) = false := decide_eq_false (by omega)
    obtain rfl : f = 0 := by omega
    have hst1 := hst.out
    simp only [find3] at hst1
    repeat (first | refine qS ?_ | refine qB ?_ | refine qT rfl ?_ | refine qF rfl ?_ | ((first | refine qR rfl ?_ | refine qK ?_ | refine qE ?_ | refine qW ?_ | refine qM ?_); try simp -dsimp (maxSteps := 2000000) (disch := first | omega | (simp only [qZ] <;> omega) | fail) only [push_cast, ↓qP, ↓reduceIte, seval, f0, f1, f9, c1]) | (refine qA ?_ ?_; (first | omega | (simp only [qL]; omega) | (simp only [qD] at *; omega))))
    exact Ret.mk ⟨by rw [← hst1]; rfl, k1⟩
  have c1 : decide ((i : Int) ≤ (l.length : Int)) = true := decide_eq_true (by omega)
  obtain ⟨f, rfl⟩ : ∃ f', f = f' + 1 := ⟨f - 1, by omega⟩
  have hst1 := hst.out
  simp only [find3] at hst1
  repeat (first | refine qS ?_ | refine qB ?_ | refine qT rfl ?_ | refine qF rfl ?_ | ((first | refine qR rfl ?_ | refine qK ?_ | refine qE ?_ | refine qW ?_ | refine qM ?_); try simp -dsimp (maxSteps := 2000000) (disch := first | omega | (simp only [qZ] <;> omega) | fail) only [push_cast, ↓qP, ↓reduceIte, seval, f0, f1, f9, c1]) | (refine qA ?_ ?_; (first | omega | (simp only [qL]; omega) | (simp only [qD] at *; omega))))
  refine CallV.of isCall_61 (longest_any hm hD (hk0.trans k1) b3 b4 hN hl hle) ?_
  rintro _ W2 ⟨x, ok, rfl, hlg, k2⟩
  rw [lg_scan hg hle hlg] at hst1
  cases ok with
  | true =>
    obtain ⟨⟨d, h1, _⟩, _⟩ := hlg.1 rfl
    have hge := h1.ge
    have hle2 := h1.le hle
    rw [if_pos rfl] at hst1
    simp only [] at hst1
    refine Sm.out ?_
    repeat (first | refine qS ?_ | refine qB ?_ | refine qT rfl ?_ | refine qF rfl ?_ | ((first | refine qR rfl ?_ | refine qK ?_ | refine qE ?_ | refine qW ?_ | refine qM ?_); try simp -dsimp (maxSteps := 2000000) (disch := first | omega | (simp only [qZ] <;> omega) | fail) only [push_cast, ↓qP, ↓reduceIte, seval, f0, f1, f9]) | (refine qA ?_ ?_; (first | omega | (simp only [qL]; omega) | (simp only [qD] at *; omega))))
    refine Ret.mk ⟨?_, k1.trans k2⟩
    rw [← hst1]
    simp only [trip]
    rw [show ((x - i : Nat) : Int) = (x : Int) - i by omega]
  | false =>
    rw [if_neg (by simp)] at hst1
    simp only [] at hst1
    refine Sm.out ?_
    repeat (first | refine qS ?_ | refine qB ?_ | refine qT rfl ?_ | refine qF rfl ?_ | ((first | refine qR rfl ?_ | refine qK ?_ | refine qE ?_ | refine qW ?_ | refine qM ?_); try simp -dsimp (maxSteps := 2000000) (disch := first | omega | (simp only [qZ] <;> omega) | fail) only [push_cast, ↓qP, ↓reduceIte, seval, f0, f1, f9]) | (refine qA ?_ ?_; (first | omega | (simp only [qL]; omega) | (simp only [qD] at *; omega))))
    exact Again.mk f ⟨i + 1, by simp [upd, f0], by simp [upd, f1], by simp [upd], by omega, k1.trans k2, ⟨hst1⟩⟩ (by omega)

theorem whole4_any (hm : IsMach w0 D (new4 e).1 (new4 e).2 v) (hD : ∀ b, D b → b < w0.heap.size) (hk0 : Kp (fun _ => False) w0 w) (hg : Good e) (hN : (new4 e).1.length ≤ 100000000) (hl : l.length ≤ 1000000) :
    Calls Try.prog 30 #[v, .string (B l)] w fun e' w' => e' = .returned (.bool (whole3 e l)) ∧ Kp (fun _ => False) w w' := by
  obtain ⟨mp, rfl⟩ : ∃ mp, v = .pointer (some ⟨mp, 0, none⟩) := by obtain ⟨b, _, _, _, h1, _⟩ := hm; exact ⟨b, h1⟩
  obtain ⟨b1, b2, b3, b4, b5⟩ := new_builds l e hg
  refine enter (n := 22) (args := [.pointer (some ⟨mp, 0, none⟩), .string (B l)]) Try.func30 rfl rfl rfl (by simp) ?_
  repeat (first | refine qS ?_ | refine qB ?_ | refine qT rfl ?_ | refine qF rfl ?_ | ((first | refine qR rfl ?_ | refine qK ?_ | refine qE ?_ | refine qW ?_ | refine qM ?_); try simp -dsimp (maxSteps := 2000000) (disch := first | omega | (simp only [qZ] <;> omega) | fail) only [push_cast, ↓qP, ↓reduceIte, seval]) | (refine qA ?_ ?_; (first | omega | (simp only [qL]; omega) | (simp only [qD] at *; omega))))
  refine CallV.of isCall_61 (longest_any (i0 := 0) hm hD hk0 b3 b4 hN hl (Nat.zero_le _)) ?_
  rintro _ W2 ⟨x, ok, rfl, hlg, k2⟩
  have hwh : whole3 e l = true ↔ Mt l e 0 l.length := one_mt hg (Nat.zero_le _) l.length
  cases ok with
  | true =>
    obtain ⟨⟨d, h1, h2⟩, h3⟩ := hlg.1 rfl
    have hle2 := h1.le (Nat.zero_le _)
    have hres : whole3 e l = ((x : Int) == (l.length : Int)) := by
      rw [Bool.eq_iff_iff, hwh, mt_rc hg]
      constructor
      · rintro ⟨d', h4, h5⟩
        have := h3 _ _ h4 h5
        simp; omega
      · intro h
        have h' : (x : Int) = (l.length : Int) := by simpa using h
        have : x = l.length := by omega
        exact ⟨d, this ▸ h1, h2⟩
    rw [hres]
    refine Sm.out ?_
    repeat (first | refine qS ?_ | refine qB ?_ | refine qT rfl ?_ | refine qF rfl ?_ | ((first | refine qR rfl ?_ | refine qK ?_ | refine qE ?_ | refine qW ?_ | refine qM ?_); try simp -dsimp (maxSteps := 2000000) (disch := first | omega | (simp only [qZ] <;> omega) | fail) only [push_cast, ↓qP, ↓reduceIte, seval]) | (refine qA ?_ ?_; (first | omega | (simp only [qL]; omega) | (simp only [qD] at *; omega))))
    exact Ret.mk ⟨rfl, k2⟩
  | false =>
    have hres : whole3 e l = false := by
      rw [← Bool.not_eq_true, hwh, mt_rc hg]
      rintro ⟨d', h4, h5⟩
      exact (hlg.2 rfl).2 _ _ h4 h5
    rw [hres]
    refine Sm.out ?_
    repeat (first | refine qS ?_ | refine qB ?_ | refine qT rfl ?_ | refine qF rfl ?_ | ((first | refine qR rfl ?_ | refine qK ?_ | refine qE ?_ | refine qW ?_ | refine qM ?_); try simp -dsimp (maxSteps := 2000000) (disch := first | omega | (simp only [qZ] <;> omega) | fail) only [push_cast, ↓qP, ↓reduceIte, seval]) | (refine qA ?_ ?_; (first | omega | (simp only [qL]; omega) | (simp only [qD] at *; omega))))
    exact Ret.mk ⟨rfl, k2⟩
end
end Go.Proofs.Ytddichibegppjaa

/- Where a match lies; how long a machine is. -/
namespace Go.Proofs.Ytddichibegppjaa
open Go Go.VC

theorem scanG_in {x : List Bool} {i : Nat} : ∀ {k j : Nat}, scan x i k = some j → i ≤ j ∧ j < k
  | 0, j, h => by simp [scan] at h
  | k + 1, j, h => by
    simp only [scan] at h
    split at h
    · cases h
    · split at h
      · cases h; omega
      · have := scanG_in h; omega
theorem findG3_in {e : Re} {l : List UInt8} : ∀ {f i a n : Nat}, find3 e l f i = some (a, n) → i ≤ a ∧ a + n ≤ l.length
  | 0, i, a, n, h => by simp [find3] at h
  | f + 1, i, a, n, h => by
    simp only [find3] at h
    split at h
    · rename_i j hj
      cases h
      have := scanG_in hj; omega
    · have := findG3_in h; omega
theorem findG_in {e : Re} {l : List UInt8} {p a n : Nat} (h : findI e l (p : Int) = some (a, n)) : p ≤ a ∧ a + n ≤ l.length := by
  unfold findI at h
  rw [if_neg (by omega), Int.toNat_natCast] at h
  exact findG3_in h

theorem lenG {e : Re} (hg : Good e) (hsz : size3 e ≤ 2000) (hwt : wt e ≤ 2001) : (new4 e).1.length ≤ 100000000 := by
  have h := (new_builds [] e hg).len
  have hns := nst_le 2500 (by omega) e hg hsz (by omega)
  have h2 : 2500 * size3 e ≤ 2500 * 2000 := Int.mul_le_mul_of_nonneg_left hsz (by omega)
  have h3 : (new4 e).1.length = 1 + nst e := h
  omega
end Go.Proofs.Ytddichibegppjaa

/- Split by an expression: the program's loop (parted). -/
namespace Go.Proofs.Ytddichibegppjaa
open Go Go.VC

def parts (find : Nat → Option (Nat × Nat)) (s : List UInt8) : Nat → List (List UInt8) → Nat → Nat → List (List UInt8)
  | 0, xs, st, _ => xs ++ [s.drop st]
  | k + 1, xs, st, p => match find p with
    | none => xs ++ [s.drop st]
    | some (j, n) => if n = 0 then parts find s k xs st (j + 1) else parts find s k (xs ++ [(s.drop st).take (j - st)]) (j + n) (j + n)
def splitE (e : Re) (s : List UInt8) : List (List UInt8) := parts (fun p => findI e s (p : Int)) s (s.length + 2) [] 0 0

section
variable {w : World} {D : Nat → Prop} {e : Re} {s : List UInt8} {v : Value}
theorem parted_any (hm : IsMach w D (new4 e).1 (new4 e).2 v) (hD : ∀ b, D b → b < w.heap.size) (hg : Good e) (hN : (new4 e).1.length ≤ 100000000) (hl : s.length ≤ 1000000) :
    Calls Try.prog 64 #[.string (B s), v] w fun r w' => ∃ A c, r = .returned (.slice A (splitE e s).length c) ∧ Own w' 9 1 A (splitE e s).length c (St (splitE e s)) ∧ Kp0 w w' := by
  obtain ⟨mp, rfl⟩ : ∃ mp, v = .pointer (some ⟨mp, 0, none⟩) := by obtain ⟨b, _, _, _, h1, _⟩ := hm; exact ⟨b, h1⟩
  obtain ⟨R, hR⟩ : ∃ R, splitE e s = R := ⟨_, rfl⟩
  rw [hR]
  unfold splitE at hR
  refine enter (n := 44) (args := [.string (B s), .pointer (some ⟨mp, 0, none⟩)]) Try.func64 rfl rfl rfl (by simp) ?_
  repeat (first | refine qS ?_ | refine qB ?_ | refine qT rfl ?_ | refine qF rfl ?_ | ((first | refine qR rfl ?_ | refine qK ?_ | refine qE ?_ | refine qW ?_ | refine qM ?_); try simp -dsimp (disch := first | omega | (simp only [qZ] <;> omega) | fail) only [push_cast, ↓qP, ↓reduceIte, seval]) | (refine qA ?_ ?_; (first | omega | (simp only [qL]; omega) | (simp only [qD] at *; omega))))
  refine Wp.loop (α := Nat) (fun k F w2 => ∃ A cap xs, ∃ st p : Nat, F 0 = .string (B s) ∧ F 1 = .pointer (some ⟨mp, 0, none⟩) ∧ F 5 = .slice A xs.length cap ∧ F 6 = .int .i64 st ∧ F 7 = .int .i64 p ∧ p ≤ s.length + 1 ∧ st ≤ s.length ∧ st ≤ p ∧ xs.length + k ≤ s.length + 2 ∧ s.length + 2 ≤ p + k ∧
      Own w2 9 1 A xs.length cap (St xs) ∧ (∀ g, bk A = some g → w.heap.size ≤ g) ∧ Kp0 w w2 ∧ Hide (parts (fun p => findI e s (p : Int)) s k xs st p = R)) (fun k => k) (s.length + 2)
    ⟨none, 0, [], 0, 0, ?_, ?_, ?_, ?_, ?_, by omega, by omega, by omega, by simp, by omega, Own.nil _ _ _, by simp [bk], Kp.refl _ _, ⟨hR⟩⟩ ?_
  · simp -dsimp (disch := first | omega | (simp only [qZ] <;> omega) | fail) only [push_cast, ↓qP, ↓reduceIte, seval]
  · simp -dsimp (disch := first | omega | (simp only [qZ] <;> omega) | fail) only [push_cast, ↓qP, ↓reduceIte, seval]
  · simp -dsimp (disch := first | omega | (simp only [qZ] <;> omega) | fail) only [push_cast, ↓qP, ↓reduceIte, seval]
  · simp -dsimp (disch := first | omega | (simp only [qZ] <;> omega) | fail) only [push_cast, ↓qP, ↓reduceIte, seval]
  · simp -dsimp (disch := first | omega | (simp only [qZ] <;> omega) | fail) only [push_cast, ↓qP, ↓reduceIte, seval]
  rintro k F w2 ⟨A, cap, xs, st, p, f0, f1, f5, f6, f7, hp, hst, hsp, hxk, hpk, hown, hnew, hkp, hgo⟩
  obtain ⟨k, rfl⟩ : ∃ k', k = k' + 1 := ⟨k - 1, by omega⟩
  have hgo := hgo.out
  rw [parts] at hgo
  repeat (first | refine qS ?_ | refine qB ?_ | refine qT rfl ?_ | refine qF rfl ?_ | ((first | refine qR rfl ?_ | refine qK ?_ | refine qE ?_ | refine qW ?_ | refine qM ?_); try simp -dsimp (disch := first | omega | (simp only [qZ] <;> omega) | fail) only [push_cast, ↓qP, ↓reduceIte, seval, f0, f1, f5, f6, f7]) | (refine qA ?_ ?_; (first | omega | (simp only [qL]; omega) | (simp only [qD] at *; omega))))
  refine CallV.of isCall_28 (find4_any (w0 := w) (l := s) hm hD hkp hg hN hl p (by omega)) ?_
  rintro _ w3 ⟨rfl, k3⟩
  have hkp3 := hkp.trans k3
  have hown3 : Own w3 9 1 A xs.length cap (St xs) := hown.keep fun g hg => k3.blk g (hown.lt hg) id
  obtain ⟨fr, hfr⟩ : ∃ fr, findI e s (p : Int) = fr := ⟨_, rfl⟩
  rw [hfr]
  simp only [hfr] at hgo
  cases fr with
  | none =>
    simp only at hgo
    have ht1 : List.take (s.length - st) (List.drop st s) = List.drop st s := by rw [List.take_of_length_le]; simp
    refine Sm.out ?_
    repeat (first | refine qS ?_ | refine qB ?_ | refine qT rfl ?_ | refine qF rfl ?_ | ((first | refine qR rfl ?_ | refine qK ?_ | refine qE ?_ | refine qW ?_ | refine qM ?_); try simp -dsimp (disch := first | omega | (simp only [qZ] <;> omega) | fail) only [push_cast, ↓qP, ↓reduceIte, seval, trip, f0, f1, f5, f6, f7]) | (refine qA ?_ ?_; (first | omega | (simp only [qL]; omega) | (simp only [qD] at *; omega))))
    refine V_append (m := 1) _ _ _ rfl mk_54 rfl (hown3.alloc _) rfl [.string (B (s.drop st))] ?r rfl (by omega) (by omega) ?kk
    case r =>
      simp -dsimp (disch := first | omega | (simp only [qZ] <;> omega) | fail) only [push_cast, ↓qP, ↓reduceIte, seval, ht1]
    case kk =>
      intro A' cap' w4 hown' hgrow hat
      refine Sm.out ?_
      repeat (first | refine qS ?_ | refine qB ?_ | refine qT rfl ?_ | refine qF rfl ?_ | ((first | refine qR rfl ?_ | refine qK ?_ | refine qE ?_ | refine qW ?_ | refine qM ?_); try simp -dsimp (disch := first | omega | (simp only [qZ] <;> omega) | fail) only [push_cast, ↓qP, ↓reduceIte, seval, f0]) | (refine qA ?_ ?_; (first | omega | (simp only [qL]; omega) | (simp only [qD] at *; omega))))
      rw [← hgo]
      refine Ret.mk ⟨A', cap', by rw [List.length_append]; rfl, by rw [St_append, List.length_append]; exact hown', (hkp3.alloc _).grown hgrow (fun g hg hlt => by have := hnew g hg; omega)⟩
  | some q =>
    obtain ⟨j, n⟩ := q
    simp only at hgo
    obtain ⟨hpj, hjn⟩ := findG_in hfr
    rcases Nat.eq_zero_or_pos n with hn | hn
    · subst hn
      rw [if_pos rfl] at hgo
      have hwr : IntKind.i64.wrap ((j : Int) + 1) = ((j + 1 : Nat) : Int) := by rw [wrap_id (by omega)]; omega
      refine Sm.out ?_
      repeat (first | refine qS ?_ | refine qB ?_ | refine qT rfl ?_ | refine qF rfl ?_ | ((first | refine qR rfl ?_ | refine qK ?_ | refine qE ?_ | refine qW ?_ | refine qM ?_); try simp -dsimp (disch := first | omega | (simp only [qZ] <;> omega) | fail) only [push_cast, ↓qP, ↓reduceIte, seval, trip, f0, f1, f5, f6, f7, hwr]) | (refine qA ?_ ?_; (first | omega | (simp only [qL]; omega) | (simp only [qD] at *; omega))))
      refine Again.mk k ⟨A, cap, xs, st, j + 1, ?_, ?_, ?_, ?_, ?_, by omega, by omega, by omega, by omega, by omega, hown3, hnew, hkp3, ⟨hgo⟩⟩ (by omega)
      · simp -dsimp (disch := first | omega | (simp only [qZ] <;> omega) | fail) only [push_cast, ↓qP, ↓reduceIte, seval, f0]
      · simp -dsimp (disch := first | omega | (simp only [qZ] <;> omega) | fail) only [push_cast, ↓qP, ↓reduceIte, seval, f1]
      · simp -dsimp (disch := first | omega | (simp only [qZ] <;> omega) | fail) only [push_cast, ↓qP, ↓reduceIte, seval, f5]
      · simp -dsimp (disch := first | omega | (simp only [qZ] <;> omega) | fail) only [push_cast, ↓qP, ↓reduceIte, seval, f6]
      · simp -dsimp (disch := first | omega | (simp only [qZ] <;> omega) | fail) only [push_cast, ↓qP, ↓reduceIte, seval, hwr]
    · rw [if_neg (by omega)] at hgo
      have hn0 : ((n : Int) == 0) = false := by simp; omega
      have hwr : IntKind.i64.wrap ((j : Int) + n) = ((j + n : Nat) : Int) := by rw [wrap_id (by omega)]; omega
      refine Sm.out ?_
      repeat (first | refine qS ?_ | refine qB ?_ | refine qT rfl ?_ | refine qF rfl ?_ | ((first | refine qR rfl ?_ | refine qK ?_ | refine qE ?_ | refine qW ?_ | refine qM ?_); try simp -dsimp (disch := first | omega | (simp only [qZ] <;> omega) | fail) only [push_cast, ↓qP, ↓reduceIte, seval, trip, f0, f1, f5, f6, f7, hn0, hwr]) | (refine qA ?_ ?_; (first | omega | (simp only [qL]; omega) | (simp only [qD] at *; omega))))
      refine V_append (m := 1) _ _ _ rfl mk_54 rfl (hown3.alloc _) rfl [.string (B ((s.drop st).take (j - st)))] ?r rfl (by omega) (by omega) ?kk
      case r => simp -dsimp (disch := first | omega | (simp only [qZ] <;> omega) | fail) only [push_cast, ↓qP, ↓reduceIte, seval]
      case kk =>
        intro A' cap' w4 hown' hgrow hat
        refine Sm.out ?_
        repeat (first | refine qS ?_ | refine qB ?_ | refine qT rfl ?_ | refine qF rfl ?_ | ((first | refine qR rfl ?_ | refine qK ?_ | refine qE ?_ | refine qW ?_ | refine qM ?_); try simp -dsimp (disch := first | omega | (simp only [qZ] <;> omega) | fail) only [push_cast, ↓qP, ↓reduceIte, seval, f0, f1, f5, f6, f7, hwr]) | (refine qA ?_ ?_; (first | omega | (simp only [qL]; omega) | (simp only [qD] at *; omega))))
        refine Again.mk k ⟨A', cap', xs ++ [(s.drop st).take (j - st)], j + n, j + n, ?_, ?_, ?_, ?_, ?_, by omega, by omega, by omega, by simp; omega, by omega, ?_, ?_, (hkp3.alloc _).grown hgrow (fun g hg hlt => by have := hnew g hg; omega), ⟨hgo⟩⟩ (by omega)
        · simp -dsimp (disch := first | omega | (simp only [qZ] <;> omega) | fail) only [push_cast, ↓qP, ↓reduceIte, seval, f0]
        · simp -dsimp (disch := first | omega | (simp only [qZ] <;> omega) | fail) only [push_cast, ↓qP, ↓reduceIte, seval, f1]
        · simp -dsimp (disch := first | omega | (simp only [qZ] <;> omega) | fail) only [push_cast, ↓qP, ↓reduceIte, seval, List.length_append]
        · simp -dsimp (disch := first | omega | (simp only [qZ] <;> omega) | fail) only [push_cast, ↓qP, ↓reduceIte, seval, hwr]
        · simp -dsimp (disch := first | omega | (simp only [qZ] <;> omega) | fail) only [push_cast, ↓qP, ↓reduceIte, seval, hwr]
        · rw [St_append, List.length_append]; exact hown'
        · intro g hg
          rcases hat with h | h
          · exact hnew g (h ▸ hg)
          · rw [h] at hg; simp at hg; subst hg; have := hkp3.size; simp; omega
end
end Go.Proofs.Ytddichibegppjaa

/- Split by an expression: the reference. -/
namespace Go.Proofs.Ytddichibegppjaa
open Go Go.VC

def txLine (sep : List UInt8) (b : Bool) : List UInt8 := if b = true then [40] ++ sep ++ [41, 124, 10] else sep
theorem txLine_le (sep : List UInt8) (b : Bool) : (txLine sep b).length ≤ sep.length + 4 := by unfold txLine; split <;> simp

theorem split3_expr (s sep : List UInt8) (b : Bool) (w : World) (hs : s.length ≤ 1000000) (h1 : 1 < sep.length) (h2 : sep.length ≤ 60) :
    Calls Try.prog 35 #[.string (B s), .string (B sep), .bool b] w fun e w' => if (parse3 (txLine sep b)).2 = 0 then (∃ A c, e = .returned (.tuple #[.slice A (if s = [] then [] else splitE (parse3 (txLine sep b)).1 s).length c, .bool true]) ∧ Own w' 9 1 A (if s = [] then [] else splitE (parse3 (txLine sep b)).1 s).length c (St (if s = [] then [] else splitE (parse3 (txLine sep b)).1 s)) ∧ Kp0 w w') else e = .returned (.tuple #[.slice none 0 0, .bool false]) ∧ Kp0 w w' := by
  refine enter (n := 173) (args := [.string (B s), .string (B sep), .bool b]) Try.func35 rfl rfl rfl (by simp) ?_
  have c1 : decide ((sep.length : Int) > 1) = true := by simp; omega
  have htl := txLine_le sep b
  refine Sm.out ?_
  repeat (first | ((fail_if_success (first | refine qY (n := 4) ?_ | refine qV (n := 4) ?_)); refine qS ?_) | refine qB ?_ | refine qT rfl ?_ | refine qF rfl ?_ | ((first | refine qR rfl ?_ | refine qK ?_ | refine qE ?_ | refine qW ?_ | refine qM ?_); try simp -dsimp (disch := first | omega | (simp only [qZ] <;> omega) | fail) only [push_cast, ↓qP, ↓reduceIte, seval, c1]) | (refine qA ?_ ?_; (first | omega | (simp only [qL]; omega) | (simp only [qD] at *; omega))))
  refine Wp.cutQ (fun F w2 => F 0 = .string (B s) ∧ F 8 = .slice none 0 0 ∧ F 9 = .string (B (txLine sep b)) ∧ w = w2) ?_ ?_
  · cases b with
    | false =>
      repeat (first | refine qS ?_ | refine qB ?_ | refine qT rfl ?_ | refine qF rfl ?_ | ((first | refine qR rfl ?_ | refine qK ?_ | refine qE ?_ | refine qW ?_ | refine qM ?_); try simp -dsimp (disch := first | omega | (simp only [qZ] <;> omega) | fail) only [push_cast, ↓qP, ↓reduceIte, seval]) | (refine qA ?_ ?_; (first | omega | (simp only [qL]; omega) | (simp only [qD] at *; omega))))
      exact Mid.mk ⟨by simp [upd, arg], by simp [upd], by simp [upd]; rfl, rfl⟩
    | true =>
      repeat (first | refine qS ?_ | refine qB ?_ | refine qT rfl ?_ | refine qF rfl ?_ | ((first | refine qR rfl ?_ | refine qK ?_ | refine qE ?_ | refine qW ?_ | refine qM ?_); try simp -dsimp (disch := first | omega | (simp only [qZ] <;> omega) | fail) only [push_cast, ↓qP, ↓reduceIte, seval]) | (refine qA ?_ ?_; (first | omega | (simp only [qL]; omega) | (simp only [qD] at *; omega))))
      exact Mid.mk ⟨by simp [upd, arg], by simp [upd], by simp [upd]; rfl, rfl⟩
  rintro F _ hmid
  obtain ⟨f0, f8, f9, rfl⟩ := hmid.out
  clear hmid
  repeat (first | refine qS ?_ | refine qB ?_ | refine qT rfl ?_ | refine qF rfl ?_ | ((first | refine qR rfl ?_ | refine qK ?_ | refine qE ?_ | refine qW ?_ | refine qM ?_); try simp -dsimp (disch := first | omega | (simp only [qZ] <;> omega) | fail) only [push_cast, ↓qP, ↓reduceIte, seval, f0, f8, f9]) | (refine qA ?_ ?_; (first | omega | (simp only [qL]; omega) | (simp only [qD] at *; omega))))
  refine CallV.of isCall_20 (parse3_any _ (txLine sep b) (by omega)) ?_
  rintro _ W3 ⟨cs, rfl, hre, k3⟩
  have hpok := parse3_ok (txLine sep b)
  generalize (parse3 (txLine sep b)).2 = z at *
  generalize (parse3 (txLine sep b)).1 = e at *
  obtain ⟨o', se, A0, m, c', lo, hi', rfl⟩ := hre.form
  obtain ⟨q, hq⟩ : ∃ q, q = W3.heap.size := ⟨_, rfl⟩
  refine Sm.out ?_
  repeat (first | ((fail_if_success (first | refine qY (n := 7) ?_ | refine qV (n := 7) ?_)); refine qS ?_) | refine qB ?_ | refine qT rfl ?_ | refine qF rfl ?_ | ((first | refine qR rfl ?_ | refine qK ?_ | refine qE ?_ | refine qW ?_ | refine qM ?_); try simp -dsimp (disch := first | omega | (simp only [qZ] <;> omega) | fail) only [push_cast, ↓qP, ↓reduceIte, seval, f0, f8]) | (refine qA ?_ ?_; (first | omega | (simp only [qL]; omega) | (simp only [qD] at *; omega))))
  rw [← hq]
  refine Wp.gen (w := (W3.alloc (.cells zRe.toArray 33)).setCells q 0 [.string (B o'), .string (B se), .slice A0 m c', .int .i64 lo, .int .i64 hi']) (A := fun W4 => Kp (fun _ => False) W3 W4 ∧ Blk W4 q 33 [.string (B o'), .string (B se), .slice A0 m c', .int .i64 lo, .int .i64 hi']) ?_ ?_
  · rw [hq]
    exact ⟨Kp.setCells ((Kp.refl _ W3).alloc _) (fun h => absurd h (Nat.lt_irrefl _)) [.string (B o'), .string (B se), .slice A0 m c', .int .i64 lo, .int .i64 hi'] 0, Blk.setAll (cs := zRe) (vs := [.string (B o'), .string (B se), .slice A0 m c', .int .i64 lo, .int .i64 hi']) (Blk.new W3 33 zRe) rfl⟩
  rintro W4 ⟨k4', hq4⟩
  have k4 := k3.trans k4'
  have hre4 := hre.Kp (D' := fun b => b < W3.heap.size) k4' (fun _ _ => id) (fun _ h => h.2)
  clear k3 k4' hre hq
  have hltq := hq4.lt
  by_cases hz : z = 0
  · by_cases hs0 : s = []
    · have e1 : (s == []) = true := by simpa using hs0
      have z1 : (z != 0) = false := by simpa using hz
      repeat (first | refine qS ?_ | refine qB ?_ | refine qT rfl ?_ | refine qF rfl ?_ | ((first | refine qR rfl ?_ | refine qK ?_ | refine qE ?_ | refine qW ?_ | refine qM ?_); try simp -dsimp (disch := first | omega | (simp only [qZ] <;> omega) | fail) only [push_cast, ↓qP, ↓reduceIte, seval, z1, f0, f8, e1]) | (refine qA ?_ ?_; (first | omega | (simp only [qL]; omega) | (simp only [qD] at *; omega))))
      refine Ret.mk ?_
      rw [if_pos hz, if_pos hs0]
      exact ⟨none, 0, rfl, Own.nil _ _ _, k4⟩
    have z1 : (z != 0) = false := by simpa using hz
    have e1 : (s == []) = false := by simpa using hs0
    obtain ⟨hg, hsz, hwt⟩ := hpok hz
    clear hpok
    obtain ⟨R, hR⟩ : ∃ R, splitE e s = R := ⟨_, rfl⟩
    have hRR := hR
    unfold splitE at hR
    refine Sm.out ?_
    repeat (first | ((fail_if_success (first | refine qY (n := 12) ?_ | refine qV (n := 12) ?_)); refine qS ?_) | refine qB ?_ | refine qT rfl ?_ | refine qF rfl ?_ | ((first | refine qR rfl ?_ | refine qK ?_ | refine qE ?_ | refine qW ?_ | refine qM ?_); try simp -dsimp (disch := first | omega | (simp only [qZ] <;> omega) | fail) only [push_cast, ↓qP, ↓reduceIte, seval, z1, f0, f8, e1]) | (refine qA ?_ ?_; (first | omega | (simp only [qL]; omega) | (simp only [qD] at *; omega))))
    refine Wp.cutQ (fun F w2 => F 0 = .string (B s) ∧ ∃ A cap xs, ∃ st : Nat, F 8 = .slice A xs.length cap ∧ F 12 = .int .i64 st ∧ st ≤ s.length ∧ xs.length ≤ s.length + 2 ∧ Own w2 9 1 A xs.length cap (St xs) ∧ (∀ g, bk A = some g → W4.heap.size ≤ g) ∧ Kp0 W4 w2 ∧ xs ++ [s.drop st] = R) ?_ ?_
    · repeat (first | refine qS ?_ | refine qB ?_ | refine qT rfl ?_ | refine qF rfl ?_ | ((first | refine qR rfl ?_ | refine qK ?_ | refine qE ?_ | refine qW ?_ | refine qM ?_); try simp -dsimp (disch := first | omega | (simp only [qZ] <;> omega) | fail) only [push_cast, ↓qP, ↓reduceIte, seval]) | (refine qA ?_ ?_; (first | omega | (simp only [qL]; omega) | (simp only [qD] at *; omega))))
      refine Wp.loop (α := Nat) (fun k F w2 => ∃ A cap xs, ∃ st p : Nat, F 0 = .string (B s) ∧ F 10 = .pointer (some ⟨q, 0, none⟩) ∧ F 8 = .slice A xs.length cap ∧ F 12 = .int .i64 st ∧ F 13 = .int .i64 p ∧ p ≤ s.length + 1 ∧ st ≤ s.length ∧ st ≤ p ∧ xs.length + k ≤ s.length + 2 ∧ s.length + 2 ≤ p + k ∧
          Own w2 9 1 A xs.length cap (St xs) ∧ (∀ g, bk A = some g → W4.heap.size ≤ g) ∧ Kp0 W4 w2 ∧ Hide (parts (fun p => findI e s (p : Int)) s k xs st p = R)) (fun k => k) (s.length + 2)
        ⟨none, 0, [], 0, 0, ?_, ?_, ?_, ?_, ?_, by omega, by omega, by omega, by simp, by omega, Own.nil _ _ _, by simp [bk], Kp.refl _ _, ⟨hR⟩⟩ ?_
      · simp -dsimp (disch := first | omega | (simp only [qZ] <;> omega) | fail) only [push_cast, ↓qP, ↓reduceIte, seval, f0]
      · simp -dsimp (disch := first | omega | (simp only [qZ] <;> omega) | fail) only [push_cast, ↓qP, ↓reduceIte, seval]
      · simp -dsimp (disch := first | omega | (simp only [qZ] <;> omega) | fail) only [push_cast, ↓qP, ↓reduceIte, seval, f8]
      · simp -dsimp (disch := first | omega | (simp only [qZ] <;> omega) | fail) only [push_cast, ↓qP, ↓reduceIte, seval]
      · simp -dsimp (disch := first | omega | (simp only [qZ] <;> omega) | fail) only [push_cast, ↓qP, ↓reduceIte, seval]
      clear hR
      rintro k F w2 ⟨A, cap, xs, st, p, f0, f10, f8, f12, f13, hp, hst, hsp, hxk, hpk, hown, hnew, hkp, hgo⟩
      obtain ⟨k, rfl⟩ : ∃ k', k = k' + 1 := ⟨k - 1, by omega⟩
      have hgo := hgo.out
      rw [parts] at hgo
      rcases Nat.lt_or_ge s.length p with hgt | hle
      · have c1 : decide ((p : Int) ≤ (s.length : Int)) = false := decide_eq_false (by omega)
        have hfr : findI e s (p : Int) = none := by
          unfold findI; rw [if_neg (by omega), Int.toNat_natCast, show s.length + 1 - p = 0 by omega]; rfl
        rw [hfr] at hgo
        simp only at hgo
        repeat (first | refine qS ?_ | refine qB ?_ | refine qT rfl ?_ | refine qF rfl ?_ | ((first | refine qR rfl ?_ | refine qK ?_ | refine qE ?_ | refine qW ?_ | refine qM ?_); try simp -dsimp (disch := first | omega | (simp only [qZ] <;> omega) | fail) only [push_cast, ↓qP, ↓reduceIte, seval, f0, f13, c1]) | (refine qA ?_ ?_; (first | omega | (simp only [qL]; omega) | (simp only [qD] at *; omega))))
        exact Mid.mk ⟨by simp [upd, f0], A, cap, xs, st, by simp [upd, f8], by simp [upd, f12], hst, by omega, hown, hnew, hkp, hgo⟩
      have c1 : decide ((p : Int) ≤ (s.length : Int)) = true := decide_eq_true (by omega)
      have hqw := hkp.Blk hq4 id
      have hltw := hqw.lt
      repeat (first | refine qS ?_ | refine qB ?_ | refine qT rfl ?_ | refine qF rfl ?_ | ((first | refine qR rfl ?_ | refine qK ?_ | refine qE ?_ | refine qW ?_ | refine qM ?_); try simp -dsimp (disch := first | omega | (simp only [qZ] <;> omega) | fail) only [push_cast, ↓qP, ↓reduceIte, seval, f0, f10, f13, c1, hqw.rdc]) | (refine qA ?_ ?_; (first | omega | (simp only [qL]; omega) | (simp only [qD] at *; omega))))
      refine CallV.of isCall_29 (find3_any (l := s) (by omega) hg (by omega) (hre4.Kp (D' := fun b => b < W3.heap.size) hkp (fun _ _ => id) (fun _ h => h)) (p : Int) (by omega)) ?_
      rintro _ w3 ⟨rfl, k3⟩
      have hkp3 := hkp.trans k3
      have hown3 : Own w3 9 1 A xs.length cap (St xs) := hown.keep fun g hg => k3.blk g (hown.lt hg) id
      clear hqw hltw hown
      obtain ⟨fr, hfr⟩ : ∃ fr, findI e s (p : Int) = fr := ⟨_, rfl⟩
      rw [hfr]
      simp only [hfr] at hgo
      cases fr with
      | none =>
        simp only at hgo
        refine Sm.out ?_
        repeat (first | refine qS ?_ | refine qB ?_ | refine qT rfl ?_ | refine qF rfl ?_ | ((first | refine qR rfl ?_ | refine qK ?_ | refine qE ?_ | refine qW ?_ | refine qM ?_); try simp -dsimp (disch := first | omega | (simp only [qZ] <;> omega) | fail) only [push_cast, ↓qP, ↓reduceIte, seval, trip, f0, f8, f10, f12, f13]) | (refine qA ?_ ?_; (first | omega | (simp only [qL]; omega) | (simp only [qD] at *; omega))))
        exact Mid.mk ⟨by simp [upd, f0], A, cap, xs, st, by simp [upd, f8], by simp [upd, f12], hst, by omega, hown3, hnew, hkp3, hgo⟩
      | some qq =>
        obtain ⟨j, n⟩ := qq
        simp only at hgo
        obtain ⟨hpj, hjn⟩ := findG_in hfr
        rcases Nat.eq_zero_or_pos n with hn | hn
        · subst hn
          rw [if_pos rfl] at hgo
          have hwr : IntKind.i64.wrap ((j : Int) + 1) = ((j + 1 : Nat) : Int) := by rw [wrap_id (by omega)]; omega
          refine Sm.out ?_
          repeat (first | refine qS ?_ | refine qB ?_ | refine qT rfl ?_ | refine qF rfl ?_ | ((first | refine qR rfl ?_ | refine qK ?_ | refine qE ?_ | refine qW ?_ | refine qM ?_); try simp -dsimp (disch := first | omega | (simp only [qZ] <;> omega) | fail) only [push_cast, ↓qP, ↓reduceIte, seval, trip, f0, f8, f10, f12, f13, hwr]) | (refine qA ?_ ?_; (first | omega | (simp only [qL]; omega) | (simp only [qD] at *; omega))))
          refine Again.mk k ⟨A, cap, xs, st, j + 1, ?_, ?_, ?_, ?_, ?_, by omega, by omega, by omega, by omega, by omega, hown3, hnew, hkp3, ⟨hgo⟩⟩ (by omega)
          · simp -dsimp (disch := first | omega | (simp only [qZ] <;> omega) | fail) only [push_cast, ↓qP, ↓reduceIte, seval, f0]
          · simp -dsimp (disch := first | omega | (simp only [qZ] <;> omega) | fail) only [push_cast, ↓qP, ↓reduceIte, seval, f10]
          · simp -dsimp (disch := first | omega | (simp only [qZ] <;> omega) | fail) only [push_cast, ↓qP, ↓reduceIte, seval, f8]
          · simp -dsimp (disch := first | omega | (simp only [qZ] <;> omega) | fail) only [push_cast, ↓qP, ↓reduceIte, seval, f12]
          · simp -dsimp (disch := first | omega | (simp only [qZ] <;> omega) | fail) only [push_cast, ↓qP, ↓reduceIte, seval, hwr]
        · rw [if_neg (by omega)] at hgo
          have hn0 : ((n : Int) == 0) = false := by simp; omega
          have hwr : IntKind.i64.wrap ((j : Int) + n) = ((j + n : Nat) : Int) := by rw [wrap_id (by omega)]; omega
          refine Sm.out ?_
          repeat (first | refine qS ?_ | refine qB ?_ | refine qT rfl ?_ | refine qF rfl ?_ | ((first | refine qR rfl ?_ | refine qK ?_ | refine qE ?_ | refine qW ?_ | refine qM ?_); try simp -dsimp (disch := first | omega | (simp only [qZ] <;> omega) | fail) only [push_cast, ↓qP, ↓reduceIte, seval, trip, f0, f8, f10, f12, f13, hn0, hwr]) | (refine qA ?_ ?_; (first | omega | (simp only [qL]; omega) | (simp only [qD] at *; omega))))
          refine V_append (m := 1) _ _ _ rfl mk_54 rfl (hown3.alloc _) rfl [.string (B ((s.drop st).take (j - st)))] ?r rfl (by omega) (by omega) ?kk
          case r => simp -dsimp (disch := first | omega | (simp only [qZ] <;> omega) | fail) only [push_cast, ↓qP, ↓reduceIte, seval]
          case kk =>
            intro A' cap' w4 hown' hgrow hat
            refine Sm.out ?_
            repeat (first | refine qS ?_ | refine qB ?_ | refine qT rfl ?_ | refine qF rfl ?_ | ((first | refine qR rfl ?_ | refine qK ?_ | refine qE ?_ | refine qW ?_ | refine qM ?_); try simp -dsimp (disch := first | omega | (simp only [qZ] <;> omega) | fail) only [push_cast, ↓qP, ↓reduceIte, seval, f0, f8, f10, f12, f13, hwr]) | (refine qA ?_ ?_; (first | omega | (simp only [qL]; omega) | (simp only [qD] at *; omega))))
            refine Again.mk k ⟨A', cap', xs ++ [(s.drop st).take (j - st)], j + n, j + n, ?_, ?_, ?_, ?_, ?_, by omega, by omega, by omega, by simp; omega, by omega, ?_, ?_, (hkp3.alloc _).grown hgrow (fun g hg hlt => by have := hnew g hg; omega), ⟨hgo⟩⟩ (by omega)
            · simp -dsimp (disch := first | omega | (simp only [qZ] <;> omega) | fail) only [push_cast, ↓qP, ↓reduceIte, seval, f0]
            · simp -dsimp (disch := first | omega | (simp only [qZ] <;> omega) | fail) only [push_cast, ↓qP, ↓reduceIte, seval, f10]
            · simp -dsimp (disch := first | omega | (simp only [qZ] <;> omega) | fail) only [push_cast, ↓qP, ↓reduceIte, seval, List.length_append]
            · simp -dsimp (disch := first | omega | (simp only [qZ] <;> omega) | fail) only [push_cast, ↓qP, ↓reduceIte, seval, hwr]
            · simp -dsimp (disch := first | omega | (simp only [qZ] <;> omega) | fail) only [push_cast, ↓qP, ↓reduceIte, seval, hwr]
            · rw [St_append, List.length_append]; exact hown'
            · intro g hg
              rcases hat with h | h
              · exact hnew g (h ▸ hg)
              · rw [h] at hg; simp at hg; subst hg; have := hkp3.size; simp; omega
    · rintro F w2 hmid
      obtain ⟨f0, A, cap, xs, st, f8, f12, hst, hxl, hown, hnew, hkp, rfl⟩ := hmid.out
      have ht1 : List.take (s.length - st) (List.drop st s) = List.drop st s := by rw [List.take_of_length_le]; simp
      refine Sm.out ?_
      repeat (first | refine qS ?_ | refine qB ?_ | refine qT rfl ?_ | refine qF rfl ?_ | ((first | refine qR rfl ?_ | refine qK ?_ | refine qE ?_ | refine qW ?_ | refine qM ?_); try simp -dsimp (disch := first | omega | (simp only [qZ] <;> omega) | fail) only [push_cast, ↓qP, ↓reduceIte, seval, f0, f8, f12]) | (refine qA ?_ ?_; (first | omega | (simp only [qL]; omega) | (simp only [qD] at *; omega))))
      refine V_append (m := 1) _ _ _ rfl mk_54 rfl (hown.alloc _) rfl [.string (B (s.drop st))] ?r rfl (by omega) (by omega) ?kk
      case r =>
        simp -dsimp (disch := first | omega | (simp only [qZ] <;> omega) | fail) only [push_cast, ↓qP, ↓reduceIte, seval, ht1]
      case kk =>
        intro A' cap' w4 hown' hgrow hat
        refine Sm.out ?_
        repeat (first | refine qS ?_ | refine qB ?_ | refine qT rfl ?_ | refine qF rfl ?_ | ((first | refine qR rfl ?_ | refine qK ?_ | refine qE ?_ | refine qW ?_ | refine qM ?_); try simp -dsimp (disch := first | omega | (simp only [qZ] <;> omega) | fail) only [push_cast, ↓qP, ↓reduceIte, seval, f0]) | (refine qA ?_ ?_; (first | omega | (simp only [qL]; omega) | (simp only [qD] at *; omega))))
        refine Ret.mk ?_
        rw [if_pos hz, if_neg hs0, hRR]
        exact ⟨A', cap', by rw [List.length_append]; rfl, by rw [St_append, List.length_append]; exact hown', k4.trans ((hkp.alloc _).grown hgrow (fun g hg hlt => by have := hnew g hg; omega))⟩
  · have z1 : (z != 0) = true := by simpa using hz
    repeat (first | refine qS ?_ | refine qB ?_ | refine qT rfl ?_ | refine qF rfl ?_ | ((first | refine qR rfl ?_ | refine qK ?_ | refine qE ?_ | refine qW ?_ | refine qM ?_); try simp -dsimp (disch := first | omega | (simp only [qZ] <;> omega) | fail) only [push_cast, ↓qP, ↓reduceIte, seval, z1]) | (refine qA ?_ ?_; (first | omega | (simp only [qL]; omega) | (simp only [qD] at *; omega))))
    refine Ret.mk ?_
    rw [if_neg hz]
    exact ⟨rfl, k4⟩
end Go.Proofs.Ytddichibegppjaa

/- Split by letters, and by an expression: the program. -/
namespace Go.Proofs.Ytddichibegppjaa
open Go Go.VC

theorem letters_set {s : List UInt8} {k : Nat} (hk : k < s.length) :
    (St (letters (s.take k)) ++ List.replicate (s.length - k) (Value.string (B []))).set k (.string (B ((s.drop k).take 1))) = St (letters (s.take (k + 1))) ++ List.replicate (s.length - (k + 1)) (Value.string (B [])) := by
  have hll : (St (letters (s.take k))).length = k := by simp [St, letters]; omega
  rw [List.set_append_right _ _ (by omega), hll, Nat.sub_self, letters_step hk, St_append, show s.length - k = s.length - (k + 1) + 1 by omega, List.replicate_succ, List.set_cons_zero]
  simp [St]

theorem split_letters (s : List UInt8) (b : Bool) (w : World) (hs : s.length ≤ 1000000) : Splits w s [] b (letters s) := by
  unfold Splits
  refine enter (n := 102) (args := [.string (B s), .string (B []), .bool b]) Try.func34 rfl rfl rfl (by simp) ?_
  rcases Bool.eq_false_or_eq_true (s == []) with h1 | h1
  · have hs0 : s = [] := by simpa using h1
    repeat (first | refine qS ?_ | refine qB ?_ | refine qT rfl ?_ | refine qF rfl ?_ | ((first | refine qR rfl ?_ | refine qK ?_ | refine qE ?_ | refine qW ?_ | refine qM ?_); try simp -dsimp (disch := first | omega | (simp only [qZ] <;> omega) | fail) only [push_cast, ↓qP, ↓reduceIte, seval, h1]) | (refine qA ?_ ?_; (first | omega | (simp only [qL]; omega) | (simp only [qD] at *; omega))))
    subst hs0
    exact Ret.mk ⟨none, 0, rfl, Own.nil _ _ _, Kp.refl _ _⟩
  have h2 : (([] : List UInt8) == [32]) = false := rfl
  obtain ⟨q, hq⟩ : ∃ q, q = w.heap.size := ⟨_, rfl⟩
  repeat (first | refine qS ?_ | refine qB ?_ | refine qT rfl ?_ | refine qF rfl ?_ | ((first | refine qR rfl ?_ | refine qK ?_ | refine qE ?_ | refine qW ?_ | refine qM ?_); try simp -dsimp (disch := first | omega | (simp only [qZ] <;> omega) | fail) only [push_cast, ↓qP, ↓reduceIte, seval, h1, h2]) | (refine qA ?_ ?_; (first | omega | (simp only [qL]; omega) | (simp only [qD] at *; omega))))
  rw [← hq]
  refine Wp.loop (α := Nat) (fun k F w2 => F 0 = .string (B s) ∧ F 10 = .slice (some ⟨q, 0, none⟩) s.length s.length ∧ F 52 = .int .i64 s.length ∧ F 53 = .int .i64 k ∧ k ≤ s.length ∧
      Blk w2 q 9 (St (letters (s.take k)) ++ List.replicate (s.length - k) (Value.string (B []))) ∧ Kp0 w w2) (fun k => s.length - k) 0
    ⟨?_, ?_, ?_, ?_, by omega, ?_, (Kp.refl _ w).alloc _⟩ ?_
  · simp -dsimp (disch := first | omega | (simp only [qZ] <;> omega) | fail) only [push_cast, ↓qP, ↓reduceIte, seval]
  · simp -dsimp (disch := first | omega | (simp only [qZ] <;> omega) | fail) only [push_cast, ↓qP, ↓reduceIte, seval]
  · simp -dsimp (disch := first | omega | (simp only [qZ] <;> omega) | fail) only [push_cast, ↓qP, ↓reduceIte, seval]
  · simp -dsimp (disch := first | omega | (simp only [qZ] <;> omega) | fail) only [push_cast, ↓qP, ↓reduceIte, seval]
  · rw [hq, zeros_one]; exact Blk.new w 9 _
  rintro k F w2 ⟨f0, f10, f52, f53, hk, hb, hkp⟩
  have hlt := hb.lt
  have hll : (letters (s.take k)).length = k := by rw [letters, List.length_map, List.length_take]; omega
  rcases Bool.eq_false_or_eq_true (decide ((k : Int) < (s.length : Int))) with h4 | h4
  · have hk' : k < s.length := by simpa using h4
    have hwr : IntKind.i64.wrap ((k : Int) + 1) = ((k + 1 : Nat) : Int) := by rw [wrap_id (by omega)]; omega
    have hc : rdc w2 q k = some (.string (B [])) := by
      rw [hb.rdc, List.getElem?_append_right (by simp [St, hll]), St_len, hll, Nat.sub_self, List.getElem?_replicate, if_pos (by omega)]
    have htk : ((k : Int) + 1).toNat - k = 1 := by omega
    repeat (first | refine qS ?_ | refine qB ?_ | refine qT rfl ?_ | refine qF rfl ?_ | ((first | refine qR rfl ?_ | refine qK ?_ | refine qE ?_ | refine qW ?_ | refine qM ?_); try simp -dsimp (disch := first | omega | (simp only [qZ] <;> omega) | fail) only [push_cast, ↓qP, ↓reduceIte, seval, f0, f10, f52, f53, h4, hwr, hc, hb.fz, htk]) | (refine qA ?_ ?_; (first | omega | (simp only [qL]; omega) | (simp only [qD] at *; omega))))
    refine Again.mk (k + 1) ⟨?_, ?_, ?_, ?_, by omega, ?_, ?_⟩ (by omega)
    · simp -dsimp (disch := first | omega | (simp only [qZ] <;> omega) | fail) only [push_cast, ↓qP, ↓reduceIte, seval, f0]
    · simp -dsimp (disch := first | omega | (simp only [qZ] <;> omega) | fail) only [push_cast, ↓qP, ↓reduceIte, seval, f10]
    · simp -dsimp (disch := first | omega | (simp only [qZ] <;> omega) | fail) only [push_cast, ↓qP, ↓reduceIte, seval, f52]
    · simp -dsimp (disch := first | omega | (simp only [qZ] <;> omega) | fail) only [push_cast, ↓qP, ↓reduceIte, seval, hwr]
    · rw [← letters_set hk']; exact hb.set k _
    · exact hkp.setCell (fun h => absurd h (by simp; omega)) _
  · have hk' : k = s.length := by have : ¬ k < s.length := by simpa using h4
                                  omega
    subst hk'
    repeat (first | refine qS ?_ | refine qB ?_ | refine qT rfl ?_ | refine qF rfl ?_ | ((first | refine qR rfl ?_ | refine qK ?_ | refine qE ?_ | refine qW ?_ | refine qM ?_); try simp -dsimp (disch := first | omega | (simp only [qZ] <;> omega) | fail) only [push_cast, ↓qP, ↓reduceIte, seval, f0, f10, f52, f53, h4]) | (refine qA ?_ ?_; (first | omega | (simp only [qL]; omega) | (simp only [qD] at *; omega))))
    rw [List.take_length] at hb hll
    rw [Nat.sub_self, List.replicate_zero, List.append_nil] at hb
    refine Ret.mk ⟨some ⟨q, 0, none⟩, s.length, by rw [hll], ?_, hkp⟩
    rw [hll]
    exact Blk.own hb (by simp [St, hll]) (by unfold maxLen; omega)

theorem split_expr (s sep : List UInt8) (b : Bool) (w : World) (hM : MaxL w) (hs : s.length ≤ 1000000) (h1 : 1 < sep.length) (h2 : sep.length ≤ 60) :
    Calls Try.prog 34 #[.string (B s), .string (B sep), .bool b] w fun e w' => if (parse3 (txLine sep b)).2 = 0 then (∃ A c, e = .returned (.tuple #[.slice A (if s = [] then [] else splitE (parse3 (txLine sep b)).1 s).length c, .bool true]) ∧ Own w' 9 1 A (if s = [] then [] else splitE (parse3 (txLine sep b)).1 s).length c (St (if s = [] then [] else splitE (parse3 (txLine sep b)).1 s)) ∧ Kp0 w w') else e = .returned (.tuple #[.slice none 0 0, .bool false]) ∧ Kp0 w w' := by
  refine enter (n := 102) (args := [.string (B s), .string (B sep), .bool b]) Try.func34 rfl rfl rfl (by simp) ?_
  have c1 : decide ((sep.length : Int) > 1) = true := by simp; omega
  have htl := txLine_le sep b
  refine Sm.out ?_
  repeat (first | ((fail_if_success (first | refine qY (n := 2) ?_ | refine qV (n := 2) ?_)); refine qS ?_) | refine qB ?_ | refine qT rfl ?_ | refine qF rfl ?_ | ((first | refine qR rfl ?_ | refine qK ?_ | refine qE ?_ | refine qW ?_ | refine qM ?_); try simp -dsimp (disch := first | omega | (simp only [qZ] <;> omega) | fail) only [push_cast, ↓qP, ↓reduceIte, seval, c1]) | (refine qA ?_ ?_; (first | omega | (simp only [qL]; omega) | (simp only [qD] at *; omega))))
  refine Wp.cutQ (fun F w2 => F 0 = .string (B s) ∧ F 1 = .string (B (txLine sep b)) ∧ w = w2) ?_ ?_
  · cases b with
    | false =>
      repeat (first | refine qS ?_ | refine qB ?_ | refine qT rfl ?_ | refine qF rfl ?_ | ((first | refine qR rfl ?_ | refine qK ?_ | refine qE ?_ | refine qW ?_ | refine qM ?_); try simp -dsimp (disch := first | omega | (simp only [qZ] <;> omega) | fail) only [push_cast, ↓qP, ↓reduceIte, seval]) | (refine qA ?_ ?_; (first | omega | (simp only [qL]; omega) | (simp only [qD] at *; omega))))
      exact Mid.mk ⟨by simp [upd, arg], by simp [upd, arg]; rfl, rfl⟩
    | true =>
      repeat (first | refine qS ?_ | refine qB ?_ | refine qT rfl ?_ | refine qF rfl ?_ | ((first | refine qR rfl ?_ | refine qK ?_ | refine qE ?_ | refine qW ?_ | refine qM ?_); try simp -dsimp (disch := first | omega | (simp only [qZ] <;> omega) | fail) only [push_cast, ↓qP, ↓reduceIte, seval]) | (refine qA ?_ ?_; (first | omega | (simp only [qL]; omega) | (simp only [qD] at *; omega))))
      exact Mid.mk ⟨by simp [upd, arg], by simp [upd]; rfl, rfl⟩
  rintro F _ hmid
  obtain ⟨f0, f1, rfl⟩ := hmid.out
  clear hmid
  repeat (first | refine qS ?_ | refine qB ?_ | refine qT rfl ?_ | refine qF rfl ?_ | ((first | refine qR rfl ?_ | refine qK ?_ | refine qE ?_ | refine qW ?_ | refine qM ?_); try simp -dsimp (disch := first | omega | (simp only [qZ] <;> omega) | fail) only [push_cast, ↓qP, ↓reduceIte, seval, f0, f1]) | (refine qA ?_ ?_; (first | omega | (simp only [qL]; omega) | (simp only [qD] at *; omega))))
  refine CallV.of isCall_63 (ere_any (txLine sep b) (by omega) _ hM) ?_
  rintro _ W3 ⟨cs, f, rfl, hre, k3, hf⟩
  have hpok := parse3_ok (txLine sep b)
  generalize (parse3 (txLine sep b)).2 = z at *
  generalize (parse3 (txLine sep b)).1 = e at *
  obtain ⟨o', se, A0, m, c', lo, hi', rfl⟩ := hre.form
  obtain ⟨q, hq⟩ : ∃ q, q = W3.heap.size := ⟨_, rfl⟩
  refine Sm.out ?_
  repeat (first | ((fail_if_success (first | refine qY (n := 5) ?_ | refine qV (n := 5) ?_)); refine qS ?_) | refine qB ?_ | refine qT rfl ?_ | refine qF rfl ?_ | ((first | refine qR rfl ?_ | refine qK ?_ | refine qE ?_ | refine qW ?_ | refine qM ?_); try simp -dsimp (disch := first | omega | (simp only [qZ] <;> omega) | fail) only [push_cast, ↓qP, ↓reduceIte, seval, f0]) | (refine qA ?_ ?_; (first | omega | (simp only [qL]; omega) | (simp only [qD] at *; omega))))
  rw [← hq]
  refine Wp.gen (w := (W3.alloc (.cells zRe.toArray 33)).setCells q 0 [.string (B o'), .string (B se), .slice A0 m c', .int .i64 lo, .int .i64 hi']) (A := fun W4 => Kp (fun _ => False) W3 W4 ∧ Blk W4 q 33 [.string (B o'), .string (B se), .slice A0 m c', .int .i64 lo, .int .i64 hi']) ?_ ?_
  · rw [hq]
    exact ⟨Kp.setCells ((Kp.refl _ W3).alloc _) (fun h => absurd h (Nat.lt_irrefl _)) [.string (B o'), .string (B se), .slice A0 m c', .int .i64 lo, .int .i64 hi'] 0, Blk.setAll (cs := zRe) (vs := [.string (B o'), .string (B se), .slice A0 m c', .int .i64 lo, .int .i64 hi']) (Blk.new W3 33 zRe) rfl⟩
  rintro W4 ⟨k4', hq4⟩
  have k4 := k3.trans k4'
  have hre4 := hre.Kp (D' := fun b => b < W3.heap.size) k4' (fun _ _ => id) (fun _ h => h.2)
  clear k3 k4' hre hq
  have hltq := hq4.lt
  by_cases hz : z = 0
  · obtain rfl : f = 0 := hf.2 hz
    have z1 : ((0 : Int) != 0) = false := rfl
    by_cases hs0 : s = []
    · have e1 : (s == []) = true := by simpa using hs0
      repeat (first | refine qS ?_ | refine qB ?_ | refine qT rfl ?_ | refine qF rfl ?_ | ((first | refine qR rfl ?_ | refine qK ?_ | refine qE ?_ | refine qW ?_ | refine qM ?_); try simp -dsimp (disch := first | omega | (simp only [qZ] <;> omega) | fail) only [push_cast, ↓qP, ↓reduceIte, seval, z1, f0, e1]) | (refine qA ?_ ?_; (first | omega | (simp only [qL]; omega) | (simp only [qD] at *; omega))))
      refine Ret.mk ?_
      rw [if_pos hz, if_pos hs0]
      exact ⟨none, 0, rfl, Own.nil _ _ _, k4⟩
    have e1 : (s == []) = false := by simpa using hs0
    obtain ⟨hg, hsz, hwt⟩ := hpok hz
    clear hpok
    repeat (first | refine qS ?_ | refine qB ?_ | refine qT rfl ?_ | refine qF rfl ?_ | ((first | refine qR rfl ?_ | refine qK ?_ | refine qE ?_ | refine qW ?_ | refine qM ?_); try simp -dsimp (disch := first | omega | (simp only [qZ] <;> omega) | fail) only [push_cast, ↓qP, ↓reduceIte, seval, z1, f0, e1, hq4.rdc]) | (refine qA ?_ ?_; (first | omega | (simp only [qL]; omega) | (simp only [qD] at *; omega))))
    refine CallV.of isCall_22 (new4_any W4 e hg hsz (by omega) _ _ hre4) ?_
    rintro _ W5 ⟨v, rfl, hm, k5'⟩
    have k5 := k4.trans k5'
    refine Sm.out ?_
    repeat (first | refine qS ?_ | refine qB ?_ | refine qT rfl ?_ | refine qF rfl ?_ | ((first | refine qR rfl ?_ | refine qK ?_ | refine qE ?_ | refine qW ?_ | refine qM ?_); try simp -dsimp (disch := first | omega | (simp only [qZ] <;> omega) | fail) only [push_cast, ↓qP, ↓reduceIte, seval, f0]) | (refine qA ?_ ?_; (first | omega | (simp only [qL]; omega) | (simp only [qD] at *; omega))))
    refine CallV.of isCall_64 (parted_any hm (fun b h => h.2) hg (lenG hg hsz (by omega)) hs) ?_
    rintro _ W6 ⟨A, c, rfl, hown, k6⟩
    refine Sm.out ?_
    repeat (first | refine qS ?_ | refine qB ?_ | refine qT rfl ?_ | refine qF rfl ?_ | ((first | refine qR rfl ?_ | refine qK ?_ | refine qE ?_ | refine qW ?_ | refine qM ?_); try simp -dsimp (disch := first | omega | (simp only [qZ] <;> omega) | fail) only [push_cast, ↓qP, ↓reduceIte, seval]) | (refine qA ?_ ?_; (first | omega | (simp only [qL]; omega) | (simp only [qD] at *; omega))))
    refine Ret.mk ?_
    rw [if_pos hz, if_neg hs0]
    exact ⟨A, c, rfl, hown, k5.trans k6⟩
  · have hf0 : f ≠ 0 := fun h => hz (hf.1 h)
    have hz' : (f != 0) = true := by simpa using hf0
    repeat (first | refine qS ?_ | refine qB ?_ | refine qT rfl ?_ | refine qF rfl ?_ | ((first | refine qR rfl ?_ | refine qK ?_ | refine qE ?_ | refine qW ?_ | refine qM ?_); try simp -dsimp (disch := first | omega | (simp only [qZ] <;> omega) | fail) only [push_cast, ↓qP, ↓reduceIte, seval, hz']) | (refine qA ?_ ?_; (first | omega | (simp only [qL]; omega) | (simp only [qD] at *; omega))))
    refine Ret.mk ?_
    rw [if_neg hz]
    exact ⟨rfl, k4⟩
end Go.Proofs.Ytddichibegppjaa

/- FieldSplits: the law. -/
namespace Go.Proofs.Ytddichibegppjaa
open Go Go.VC

/-- A text's fields, and whether there are any. -/
def fsplit (s sep : List UInt8) (b : Bool) : List (List UInt8) × Bool :=
  if 1 < sep.length then (if (parse3 (txLine sep b)).2 = 0 then (if s = [] then [] else splitE (parse3 (txLine sep b)).1 s, true) else ([], false))
  else if sep = [32] then (blanks s, true) else match sep with
    | [] => (letters s, true)
    | c0 :: _ => (bysep (cutp c0 b) s, true)

theorem fl_le2 (l : List UInt8) : ∀ cur, (fl cur l).length ≤ l.length + 1 ∧ ∀ f ∈ fl cur l, f.length ≤ cur.length + l.length := by
  induction l with
  | nil => intro cur; simp only [fl]; split <;> simp
  | cons c l ih =>
    intro cur
    simp only [fl]
    have h0 := ih []
    split
    · split
      · simp at h0 ⊢; exact ⟨by omega, fun f hf => by have := h0.2 f hf; omega⟩
      · simp at h0 ⊢; exact ⟨by omega, fun f hf => by have := h0.2 f hf; omega⟩
    · have h1 := ih (cur ++ [c])
      simp at h1 ⊢; exact ⟨by omega, fun f hf => by have := h1.2 f hf; omega⟩
theorem sp_le (p : UInt8 → Bool) (l : List UInt8) : ∀ cur, (sp p cur l).length ≤ l.length + 1 ∧ ∀ f ∈ sp p cur l, f.length ≤ cur.length + l.length := by
  induction l with
  | nil => intro cur; simp [sp]
  | cons c l ih =>
    intro cur
    simp only [sp]
    have h0 := ih []
    split
    · simp at h0 ⊢; exact ⟨by omega, fun f hf => by have := h0.2 f hf; omega⟩
    · have h1 := ih (cur ++ [c])
      simp at h1 ⊢; exact ⟨by omega, fun f hf => by have := h1.2 f hf; omega⟩
theorem parts_le (find : Nat → Option (Nat × Nat)) (s : List UInt8) : ∀ (k : Nat) (xs : List (List UInt8)) (st p : Nat), (∀ y ∈ xs, y.length ≤ s.length) →
    (parts find s k xs st p).length ≤ xs.length + k + 1 ∧ ∀ y ∈ parts find s k xs st p, y.length ≤ s.length
  | 0, xs, st, p, h => by
    simp only [parts, List.length_append, List.length_singleton, List.mem_append, List.mem_singleton]
    refine ⟨by omega, fun y hy => ?_⟩
    rcases hy with hy | rfl
    · exact h y hy
    · simp
  | k + 1, xs, st, p, h => by
    simp only [parts]
    split
    · simp only [List.length_append, List.length_singleton, List.mem_append, List.mem_singleton]
      refine ⟨by omega, fun y hy => ?_⟩
      rcases hy with hy | rfl
      · exact h y hy
      · simp
    · rename_i j n _
      split
      · have := parts_le find s k xs st (j + 1) h
        exact ⟨by omega, this.2⟩
      · have := parts_le find s k (xs ++ [(s.drop st).take (j - st)]) (j + n) (j + n) (fun y hy => by
          rcases List.mem_append.1 hy with hy | hy
          · exact h y hy
          · simp at hy; subst hy; simp; omega)
        simp at this
        exact ⟨by omega, this.2⟩
theorem fsplit_le (s sep : List UInt8) (b : Bool) : (fsplit s sep b).1.length ≤ s.length + 3 ∧ ∀ y ∈ (fsplit s sep b).1, y.length ≤ s.length := by
  unfold fsplit
  split
  · split
    · split
      · simp
      · have := parts_le (fun p => findI (parse3 (txLine sep b)).1 s (p : Int)) s (s.length + 2) [] 0 0 (by simp)
        simp at this
        exact ⟨by show (parts _ _ _ _ _ _).length ≤ _; omega, this.2⟩
    · simp
  · split
    · have := fl_le2 s []
      simp at this
      exact ⟨by show (fl [] s).length ≤ _; omega, this.2⟩
    · split
      · rename_i hl _ _
        refine ⟨by simp [letters], fun y hy => ?_⟩
        simp only [letters, List.mem_map] at hy
        obtain ⟨c, hc, rfl⟩ := hy
        have := List.length_pos_of_mem hc
        simp; omega
      · rename_i c0 _ _ _
        show (bysep (cutp c0 b) s).length ≤ _ ∧ ∀ y ∈ bysep (cutp c0 b) s, _
        unfold bysep
        split
        · simp
        · have := sp_le (cutp c0 b) s []
          simp at this
          exact ⟨by omega, this.2⟩

/-- Function f answers as fsplit does. -/
def Parted (f : FuncId) (w : World) (s sep : List UInt8) (b : Bool) : Prop :=
  Calls Try.prog f #[.string (B s), .string (B sep), .bool b] w fun e w' => ∃ A c, e = .returned (.tuple #[.slice A (fsplit s sep b).1.length c, .bool (fsplit s sep b).2]) ∧ Own w' 9 1 A (fsplit s sep b).1.length c (St (fsplit s sep b).1) ∧ Kp0 w w'

theorem sep_cases {sep : List UInt8} (h : ¬ 1 < sep.length) : sep = [] ∨ ∃ c, sep = [c] := by
  match sep, h with
  | [], _ => exact .inl rfl
  | [c], _ => exact .inr ⟨c, rfl⟩
  | _ :: _ :: _, h => simp at h

theorem parted34 (s sep : List UInt8) (b : Bool) (w : World) (hM : MaxL w) (hs : s.length ≤ 1000000) (h2 : sep.length ≤ 60) : Parted 34 w s sep b := by
  unfold Parted
  by_cases h1 : 1 < sep.length
  · refine (split_expr s sep b w hM hs h1 h2).mono fun e w' h => ?_
    unfold fsplit
    rw [if_pos h1]
    split at h
    · rename_i hz; rw [if_pos hz]; exact h
    · rename_i hz; rw [if_neg hz]; exact ⟨none, 0, h.1, Own.nil _ _ _, h.2⟩
  · rcases sep_cases h1 with rfl | ⟨c, rfl⟩
    · exact split_letters s b w hs
    · by_cases hc : c = 32
      · subst hc; exact split_blank s b w hs
      · have e : fsplit s [c] b = (bysep (cutp c b) s, true) := by unfold fsplit; rw [if_neg h1, if_neg (by simpa using hc)]
        rw [e]
        exact split_byte s c b w hs hc
theorem parted35 (s sep : List UInt8) (b : Bool) (w : World) (hs : s.length ≤ 1000000) (h2 : sep.length ≤ 60) : Parted 35 w s sep b := by
  unfold Parted
  by_cases h1 : 1 < sep.length
  · refine (split3_expr s sep b w hs h1 h2).mono fun e w' h => ?_
    unfold fsplit
    rw [if_pos h1]
    split at h
    · rename_i hz; rw [if_pos hz]; exact h
    · rename_i hz; rw [if_neg hz]; exact ⟨none, 0, h.1, Own.nil _ _ _, h.2⟩
  · rcases sep_cases h1 with rfl | ⟨c, rfl⟩
    · exact split3_letters s b w hs
    · by_cases hc : c = 32
      · subst hc; exact split3_blank s b w hs
      · have e : fsplit s [c] b = (bysep (cutp c b) s, true) := by unfold fsplit; rw [if_neg h1, if_neg (by simpa using hc)]
        rw [e]
        exact split3_byte s c b w hs hc

theorem fieldSplits_any (w : World) (hM : MaxL w) (s sep : List UInt8) (b : Bool) : Calls Try.prog 11 #[.string (B s), .string (B sep), .bool b] w fun e w' => e = .returned (.bool true) ∧ Kp0 w w' := by
  refine enter (n := 43) (args := [.string (B s), .string (B sep), .bool b]) Try.func11 rfl rfl rfl (by simp) ?_
  repeat (first | refine qS ?_ | refine qB ?_ | refine qT rfl ?_ | refine qF rfl ?_ | ((first | refine qR rfl ?_ | refine qK ?_ | refine qE ?_ | refine qW ?_ | refine qM ?_); try simp -dsimp (disch := first | omega | (simp only [qZ] <;> omega) | fail) only [push_cast, ↓qP, ↓reduceIte, seval]) | (refine qA ?_ ?_; (first | omega | (simp only [qL]; omega) | (simp only [qD] at *; omega))))
  refine CallV.of isCall_33 (awake10 w) ?_
  rintro _ W1 ⟨rfl, k1⟩
  rcases Bool.eq_false_or_eq_true (decide ((s.length : Int) > 60)) with g1 | g1
  · refine Sm.out ?_
    repeat (first | refine qS ?_ | refine qB ?_ | refine qT rfl ?_ | refine qF rfl ?_ | ((first | refine qR rfl ?_ | refine qK ?_ | refine qE ?_ | refine qW ?_ | refine qM ?_); try simp -dsimp (disch := first | omega | (simp only [qZ] <;> omega) | fail) only [push_cast, ↓qP, ↓reduceIte, seval, g1]) | (refine qA ?_ ?_; (first | omega | (simp only [qL]; omega) | (simp only [qD] at *; omega))))
    exact Ret.mk ⟨rfl, k1⟩
  rcases Bool.eq_false_or_eq_true (decide ((sep.length : Int) > 60)) with g2 | g2
  · refine Sm.out ?_
    repeat (first | refine qS ?_ | refine qB ?_ | refine qT rfl ?_ | refine qF rfl ?_ | ((first | refine qR rfl ?_ | refine qK ?_ | refine qE ?_ | refine qW ?_ | refine qM ?_); try simp -dsimp (disch := first | omega | (simp only [qZ] <;> omega) | fail) only [push_cast, ↓qP, ↓reduceIte, seval, g1, g2]) | (refine qA ?_ ?_; (first | omega | (simp only [qL]; omega) | (simp only [qD] at *; omega))))
    exact Ret.mk ⟨rfl, k1⟩
  have h1 : s.length ≤ 60 := by have := of_decide_eq_false g1; omega
  have h2 : sep.length ≤ 60 := by have := of_decide_eq_false g2; omega
  refine Sm.out ?_
  repeat (first | refine qS ?_ | refine qB ?_ | refine qT rfl ?_ | refine qF rfl ?_ | ((first | refine qR rfl ?_ | refine qK ?_ | refine qE ?_ | refine qW ?_ | refine qM ?_); try simp -dsimp (disch := first | omega | (simp only [qZ] <;> omega) | fail) only [push_cast, ↓qP, ↓reduceIte, seval, g1, g2]) | (refine qA ?_ ?_; (first | omega | (simp only [qL]; omega) | (simp only [qD] at *; omega))))
  refine CallV.of isCall_34 (parted34 s sep b W1 (hM.kp k1 id) (by omega) h2) ?_
  rintro _ W2 ⟨A, c, rfl, hown, k2⟩
  refine Sm.out ?_
  repeat (first | refine qS ?_ | refine qB ?_ | refine qT rfl ?_ | refine qF rfl ?_ | ((first | refine qR rfl ?_ | refine qK ?_ | refine qE ?_ | refine qW ?_ | refine qM ?_); try simp -dsimp (disch := first | omega | (simp only [qZ] <;> omega) | fail) only [push_cast, ↓qP, ↓reduceIte, seval]) | (refine qA ?_ ?_; (first | omega | (simp only [qL]; omega) | (simp only [qD] at *; omega))))
  refine CallV.of isCall_35 (parted35 s sep b W2 (by omega) h2) ?_
  rintro _ W3 ⟨A', c', rfl, hown', k3⟩
  have hle := (fsplit_le s sep b).1
  generalize fsplit s sep b = r at *
  obtain ⟨xs, ok⟩ := r
  have hbb : (ok == ok) = true := by simp
  refine Sm.out ?_
  repeat (first | refine qS ?_ | refine qB ?_ | refine qT rfl ?_ | refine qF rfl ?_ | ((first | refine qR rfl ?_ | refine qK ?_ | refine qE ?_ | refine qW ?_ | refine qM ?_); try simp -dsimp (disch := first | omega | (simp only [qZ] <;> omega) | fail) only [push_cast, ↓qP, ↓reduceIte, seval, hbb]) | (refine qA ?_ ?_; (first | omega | (simp only [qL]; omega) | (simp only [qD] at *; omega))))
  refine CallV.of isCall_36 (same10_any (hown.Kp k3 (fun _ _ => id)).Txt hown'.Txt (by simp at hle; omega) (by simp at hle; omega)) ?_
  rintro _ W4 ⟨rfl, k4⟩
  have hd : decide (xs = xs) = true := decide_eq_true rfl
  refine Sm.out ?_
  repeat (first | refine qS ?_ | refine qB ?_ | refine qT rfl ?_ | refine qF rfl ?_ | ((first | refine qR rfl ?_ | refine qK ?_ | refine qE ?_ | refine qW ?_ | refine qM ?_); try simp -dsimp (disch := first | omega | (simp only [qZ] <;> omega) | fail) only [push_cast, ↓qP, ↓reduceIte, seval, hd]) | (refine qA ?_ ?_; (first | omega | (simp only [qL]; omega) | (simp only [qD] at *; omega))))
  exact Ret.mk ⟨rfl, ((k1.trans k2).trans k3).trans k4⟩
end Go.Proofs.Ytddichibegppjaa

/- Records are run alike: the law. -/
namespace Go.Proofs.Ytddichibegppjaa
open Go Go.VC

structure Act where
  what : Int
  i : Int
  s : List UInt8
  ofs : List UInt8
def Act.cells (a : Act) : List Value := [.int .i64 a.what, .int .i64 a.i, .string (B a.s), .string (B a.ofs)]
def Act.ok (a : Act) : Prop := (-9223372036854775808 ≤ a.what ∧ a.what ≤ 9223372036854775807) ∧ -9223372036854775808 ≤ a.i ∧ a.i ≤ 9223372036854775807
def zAct : List Value := [.int .i64 0, .int .i64 0, .string (B []), .string (B [])]
/-- These acts lie there. -/
def Acts (w : World) (A : Option Addr) (l : List Act) : Prop :=
  l = [] ∨ ∃ b o, A = some ⟨b, o, none⟩ ∧ b < w.heap.size ∧ ∀ j a, l[j]? = some a → rdn w b (o + j * 4) 4 = some a.cells ∧ a.ok

section
variable {w w' : World} {r r' : Nat} {l : List UInt8} {xs : List (List UInt8)}
theorem Blk.ne {g g' t t' : Nat} {cs cs' : List Value} (h : Blk w g t cs) (h' : Blk w g' t' cs') (hne : t ≠ t') : g ≠ g' := by
  rintro rfl
  unfold Blk at h h'
  rw [h] at h'
  injection h' with h'
  injection h' with _ ht
  exact hne ht
theorem Rec3.other (h : Rec3 w r' l xs) {l2 : List UInt8} {ys : List (List UInt8)} (hr : Rec w r l2 ys) (hk : VC.Kp (· = r) w w') : Rec3 w' r' l xs := by
  obtain ⟨A, c, hb, ho⟩ := h
  obtain ⟨_, _, hb2, _⟩ := hr
  exact ⟨A, c, hk.Blk hb (Blk.ne hb hb2 (by decide)), ho.Kp hk fun g hg he => ho.ne_blk hb2 (by decide) (he ▸ hg)⟩
theorem Rec.other (h : Rec w r l xs) {l2 : List UInt8} {ys : List (List UInt8)} (hr : Rec3 w r' l2 ys) (hk : VC.Kp (· = r') w w') : Rec w' r l xs := by
  obtain ⟨A, c, hb, ho⟩ := h
  obtain ⟨_, _, hb2, _⟩ := hr
  exact ⟨A, c, hk.Blk hb (Blk.ne hb hb2 (by decide)), ho.Kp hk fun g hg he => ho.ne_blk hb2 (by decide) (he ▸ hg)⟩

theorem newM_any (l sep : List UInt8) (b : Bool) (w : World) (hM : MaxL w) (hs : l.length ≤ 1000000) (h2 : sep.length ≤ 60) :
    Calls Try.prog 37 #[.string (B l), .string (B sep), .bool b] w fun e w' => if (fsplit l sep b).2 = true then (∃ r, e = .returned (.tuple #[.pointer (some ⟨r, 0, none⟩), .bool true]) ∧ w.heap.size ≤ r ∧ Rec w' r l (fsplit l sep b).1 ∧ Kp0 w w') else e = .returned (.tuple #[.pointer none, .bool false]) ∧ Kp0 w w' := by
  have hp := parted34 l sep b w hM hs h2
  by_cases hok : (fsplit l sep b).2 = true
  · simp only [if_pos hok]
    refine new_any ?_
    unfold Splits
    unfold Parted at hp
    rw [hok] at hp
    exact hp
  · simp only [if_neg hok]
    have hok' : (fsplit l sep b).2 = false := by simpa using hok
    refine enter (n := 23) (args := [.string (B l), .string (B sep), .bool b]) Try.func37 rfl rfl rfl (by simp) ?_
    repeat (first | refine qS ?_ | refine qB ?_ | refine qT rfl ?_ | refine qF rfl ?_ | ((first | refine qR rfl ?_ | refine qK ?_ | refine qE ?_ | refine qW ?_ | refine qM ?_); try simp -dsimp (disch := first | omega | (simp only [qZ] <;> omega) | fail) only [push_cast, ↓qP, ↓reduceIte, seval]) | (refine qA ?_ ?_; (first | omega | (simp only [qL]; omega) | (simp only [qD] at *; omega))))
    refine CallV.of isCall_34 hp ?_
    rintro _ w' ⟨A, c, rfl, ho, hk⟩
    rw [hok']
    refine Sm.out ?_
    repeat (first | refine qS ?_ | refine qB ?_ | refine qT rfl ?_ | refine qF rfl ?_ | ((first | refine qR rfl ?_ | refine qK ?_ | refine qE ?_ | refine qW ?_ | refine qM ?_); try simp -dsimp (disch := first | omega | (simp only [qZ] <;> omega) | fail) only [push_cast, ↓qP, ↓reduceIte, seval]) | (refine qA ?_ ?_; (first | omega | (simp only [qL]; omega) | (simp only [qD] at *; omega))))
    exact Ret.mk ⟨rfl, hk⟩
end

/-- What a run of acts holds on to. -/
def Runs (w W : World) (r r' : Nat) : Prop :=
  ∃ l xs, Rec W r l xs ∧ Rec3 W r' l xs ∧ xs.length ≤ 1000 ∧ (∀ y ∈ xs, y.length ≤ 60) ∧ w.heap.size ≤ r ∧ w.heap.size ≤ r' ∧ Kp0 w W

theorem fieldRuns_any (w : World) (hM : MaxL w) (line sep : List UInt8) (A : Option Addr) (cap : Nat) (acts : List Act) (hacts : Acts w A acts) (hn : acts.length ≤ 9223372036854775807) :
    Calls Try.prog 14 #[.string (B line), .string (B sep), .slice A acts.length cap] w fun e w' => e = .returned (.bool true) ∧ Kp0 w w' := by
  refine enter (n := 165) (args := [.string (B line), .string (B sep), .slice A acts.length cap]) Try.func14 rfl rfl rfl (by simp) ?_
  repeat (first | refine qS ?_ | refine qB ?_ | refine qT rfl ?_ | refine qF rfl ?_ | ((first | refine qR rfl ?_ | refine qK ?_ | refine qE ?_ | refine qW ?_ | refine qM ?_); try simp -dsimp (disch := first | omega | (simp only [qZ] <;> omega) | fail) only [push_cast, ↓qP, ↓reduceIte, seval]) | (refine qA ?_ ?_; (first | omega | (simp only [qL]; omega) | (simp only [qD] at *; omega))))
  refine CallV.of isCall_33 (awake10 w) ?_
  rintro _ W1 ⟨rfl, k1⟩
  rcases Bool.eq_false_or_eq_true (decide ((line.length : Int) > 60)) with g1 | g1
  · refine Sm.out ?_
    repeat (first | refine qS ?_ | refine qB ?_ | refine qT rfl ?_ | refine qF rfl ?_ | ((first | refine qR rfl ?_ | refine qK ?_ | refine qE ?_ | refine qW ?_ | refine qM ?_); try simp -dsimp (disch := first | omega | (simp only [qZ] <;> omega) | fail) only [push_cast, ↓qP, ↓reduceIte, seval, g1]) | (refine qA ?_ ?_; (first | omega | (simp only [qL]; omega) | (simp only [qD] at *; omega))))
    exact Ret.mk ⟨rfl, k1⟩
  rcases Bool.eq_false_or_eq_true (decide ((sep.length : Int) > 60)) with g2 | g2
  · refine Sm.out ?_
    repeat (first | refine qS ?_ | refine qB ?_ | refine qT rfl ?_ | refine qF rfl ?_ | ((first | refine qR rfl ?_ | refine qK ?_ | refine qE ?_ | refine qW ?_ | refine qM ?_); try simp -dsimp (disch := first | omega | (simp only [qZ] <;> omega) | fail) only [push_cast, ↓qP, ↓reduceIte, seval, g1, g2]) | (refine qA ?_ ?_; (first | omega | (simp only [qL]; omega) | (simp only [qD] at *; omega))))
    exact Ret.mk ⟨rfl, k1⟩
  have h1 : line.length ≤ 60 := by have := of_decide_eq_false g1; omega
  have h2 : sep.length ≤ 60 := by have := of_decide_eq_false g2; omega
  refine Sm.out ?_
  repeat (first | refine qS ?_ | refine qB ?_ | refine qT rfl ?_ | refine qF rfl ?_ | ((first | refine qR rfl ?_ | refine qK ?_ | refine qE ?_ | refine qW ?_ | refine qM ?_); try simp -dsimp (disch := first | omega | (simp only [qZ] <;> omega) | fail) only [push_cast, ↓qP, ↓reduceIte, seval, g1, g2]) | (refine qA ?_ ?_; (first | omega | (simp only [qL]; omega) | (simp only [qD] at *; omega))))
  have hlen := fsplit_le line sep false
  refine CallV.of isCall_37 (newM_any line sep false W1 (hM.kp k1 id) (by omega) h2) ?_
  intro e W2 hp
  have hp35 := parted35 line sep false W2 (by omega) h2
  unfold Parted at hp35
  obtain ⟨ok, hok⟩ : ∃ ok, (fsplit line sep false).2 = ok := ⟨_, rfl⟩
  rw [hok] at hp hp35
  cases ok with
  | false =>
    rw [if_neg (by simp)] at hp
    obtain ⟨rfl, k2⟩ := hp
    refine Sm.out ?_
    repeat (first | refine qS ?_ | refine qB ?_ | refine qT rfl ?_ | refine qF rfl ?_ | ((first | refine qR rfl ?_ | refine qK ?_ | refine qE ?_ | refine qW ?_ | refine qM ?_); try simp -dsimp (disch := first | omega | (simp only [qZ] <;> omega) | fail) only [push_cast, ↓qP, ↓reduceIte, seval]) | (refine qA ?_ ?_; (first | omega | (simp only [qL]; omega) | (simp only [qD] at *; omega))))
    refine CallV.of isCall_35 hp35 ?_
    rintro _ W3 ⟨A', c', rfl, hown', k3⟩
    refine Sm.out ?_
    repeat (first | refine qS ?_ | refine qB ?_ | refine qT rfl ?_ | refine qF rfl ?_ | ((first | refine qR rfl ?_ | refine qK ?_ | refine qE ?_ | refine qW ?_ | refine qM ?_); try simp -dsimp (disch := first | omega | (simp only [qZ] <;> omega) | fail) only [push_cast, ↓qP, ↓reduceIte, seval]) | (refine qA ?_ ?_; (first | omega | (simp only [qL]; omega) | (simp only [qD] at *; omega))))
    refine CallV.of isCall_40 (nf_nil W3) ?_
    rintro _ _ ⟨rfl, rfl⟩
    have z0 : ((0 : Int) == 0) = true := rfl
    refine Sm.out ?_
    repeat (first | refine qS ?_ | refine qB ?_ | refine qT rfl ?_ | refine qF rfl ?_ | ((first | refine qR rfl ?_ | refine qK ?_ | refine qE ?_ | refine qW ?_ | refine qM ?_); try simp -dsimp (disch := first | omega | (simp only [qZ] <;> omega) | fail) only [push_cast, ↓qP, ↓reduceIte, seval, z0]) | (refine qA ?_ ?_; (first | omega | (simp only [qL]; omega) | (simp only [qD] at *; omega))))
    refine CallV.of isCall_39 (line_nil W3) ?_
    rintro _ _ ⟨rfl, rfl⟩
    have z1 : (([] : List UInt8) == []) = true := rfl
    refine Sm.out ?_
    repeat (first | refine qS ?_ | refine qB ?_ | refine qT rfl ?_ | refine qF rfl ?_ | ((first | refine qR rfl ?_ | refine qK ?_ | refine qE ?_ | refine qW ?_ | refine qM ?_); try simp -dsimp (disch := first | omega | (simp only [qZ] <;> omega) | fail) only [push_cast, ↓qP, ↓reduceIte, seval, z1]) | (refine qA ?_ ?_; (first | omega | (simp only [qL]; omega) | (simp only [qD] at *; omega))))
    refine CallV.of isCall_38 (set_nil W3 1 [] []) ?_
    rintro _ _ ⟨rfl, rfl⟩
    refine Sm.out ?_
    repeat (first | refine qS ?_ | refine qB ?_ | refine qT rfl ?_ | refine qF rfl ?_ | ((first | refine qR rfl ?_ | refine qK ?_ | refine qE ?_ | refine qW ?_ | refine qM ?_); try simp -dsimp (disch := first | omega | (simp only [qZ] <;> omega) | fail) only [push_cast, ↓qP, ↓reduceIte, seval]) | (refine qA ?_ ?_; (first | omega | (simp only [qL]; omega) | (simp only [qD] at *; omega))))
    exact Ret.mk ⟨rfl, (k1.trans k2).trans k3⟩
  | true =>
  rw [if_pos rfl] at hp
  obtain ⟨r, rfl, hr, hrec, k2⟩ := hp
  refine Sm.out ?_
  repeat (first | refine qS ?_ | refine qB ?_ | refine qT rfl ?_ | refine qF rfl ?_ | ((first | refine qR rfl ?_ | refine qK ?_ | refine qE ?_ | refine qW ?_ | refine qM ?_); try simp -dsimp (disch := first | omega | (simp only [qZ] <;> omega) | fail) only [push_cast, ↓qP, ↓reduceIte, seval]) | (refine qA ?_ ?_; (first | omega | (simp only [qL]; omega) | (simp only [qD] at *; omega))))
  refine CallV.of isCall_35 hp35 ?_
  rintro _ W3 ⟨A', c', rfl, hown', k3⟩
  obtain ⟨r', hr'⟩ : ∃ r', r' = W3.heap.size := ⟨_, rfl⟩
  refine Sm.out ?_
  repeat (first | ((fail_if_success (first | refine qY (n := 10) ?_ | refine qV (n := 10) ?_)); refine qS ?_) | refine qB ?_ | refine qT rfl ?_ | refine qF rfl ?_ | ((first | refine qR rfl ?_ | refine qK ?_ | refine qE ?_ | refine qW ?_ | refine qM ?_); try simp -dsimp (disch := first | omega | (simp only [qZ] <;> omega) | fail) only [push_cast, ↓qP, ↓reduceIte, seval]) | (refine qA ?_ ?_; (first | omega | (simp only [qL]; omega) | (simp only [qD] at *; omega))))
  rw [← hr']
  have hw1 := (k1.trans k2).trans k3
  have hruns : Runs w (W3.alloc (.cells #[.string (B line), .slice A' (fsplit line sep false).1.length c'] 70)) r r' := by
    refine ⟨line, (fsplit line sep false).1, (hrec.Kp k3).Kp ((Kp.refl _ W3).alloc _), ⟨A', c', by rw [hr']; exact Blk.new W3 70 [_, _], hown'.alloc _⟩, by omega, fun y hy => ?_, ?_, ?_, hw1.alloc _⟩
    · have := hlen.2 y hy; omega
    · have := k1.size; omega
    · have := hw1.size; omega
  clear hr hrec hown' k1 k2 k3 hp35 hlen hw1 hr'
  refine Wp.gen (A := fun W => Runs w W r r') hruns ?_
  clear hruns
  intro W hruns
  repeat (first | refine qS ?_ | refine qB ?_ | refine qT rfl ?_ | refine qF rfl ?_ | ((first | refine qR rfl ?_ | refine qK ?_ | refine qE ?_ | refine qW ?_ | refine qM ?_); try simp -dsimp (disch := first | omega | (simp only [qZ] <;> omega) | fail) only [push_cast, ↓qP, ↓reduceIte, seval]) | (refine qA ?_ ?_; (first | omega | (simp only [qL]; omega) | (simp only [qD] at *; omega))))
  refine Wp.loop (α := Nat) (fun k F W => F 7 = .pointer (some ⟨r, 0, none⟩) ∧ F 11 = .pointer (some ⟨r', 0, none⟩) ∧ F 68 = .slice A acts.length cap ∧ F 69 = .int .i64 acts.length ∧ F 70 = .int .i64 k ∧ k ≤ acts.length ∧ Runs w W r r') (fun k => acts.length - k) 0 ⟨?_, ?_, ?_, ?_, ?_, by omega, hruns⟩ ?_
  · simp -dsimp (disch := first | omega | (simp only [qZ] <;> omega) | fail) only [push_cast, ↓qP, ↓reduceIte, seval]
  · simp -dsimp (disch := first | omega | (simp only [qZ] <;> omega) | fail) only [push_cast, ↓qP, ↓reduceIte, seval]
  · simp -dsimp (disch := first | omega | (simp only [qZ] <;> omega) | fail) only [push_cast, ↓qP, ↓reduceIte, seval]
  · simp -dsimp (disch := first | omega | (simp only [qZ] <;> omega) | fail) only [push_cast, ↓qP, ↓reduceIte, seval]
  · simp -dsimp (disch := first | omega | (simp only [qZ] <;> omega) | fail) only [push_cast, ↓qP, ↓reduceIte, seval]
  clear hruns
  rintro k F W ⟨f7, f11, f68, f69, f70, hk, hruns⟩
  rcases Bool.eq_false_or_eq_true (decide ((k : Int) < (acts.length : Int))) with h4 | h4
  rotate_left
  · repeat (first | refine qS ?_ | refine qB ?_ | refine qT rfl ?_ | refine qF rfl ?_ | ((first | refine qR rfl ?_ | refine qK ?_ | refine qE ?_ | refine qW ?_ | refine qM ?_); try simp -dsimp (disch := first | omega | (simp only [qZ] <;> omega) | fail) only [push_cast, ↓qP, ↓reduceIte, seval, f69, f70, h4]) | (refine qA ?_ ?_; (first | omega | (simp only [qL]; omega) | (simp only [qD] at *; omega))))
    obtain ⟨_, _, _, _, _, _, _, _, hkp⟩ := hruns
    exact Ret.mk ⟨rfl, hkp⟩
  have hk' : k < acts.length := by simpa using h4
  obtain ⟨b, o, rfl, hb, ha⟩ := hacts.resolve_left (by rintro rfl; simp at hk')
  obtain ⟨a, hak⟩ : ∃ a, acts[k]? = some a := ⟨_, List.getElem?_eq_getElem hk'⟩
  obtain ⟨hcells, hok⟩ := ha k a hak
  obtain ⟨what, i, s, ofs⟩ := a
  unfold Act.cells at hcells
  obtain ⟨hok1, hok2⟩ := hok
  simp only at hcells hok1 hok2
  obtain ⟨l, xs, hrec, hrec3, hxl, hxm, hr1, hr2, hkp⟩ := hruns
  have hcw : rdn W b (o + k * 4) 4 = some [.int .i64 what, .int .i64 i, .string (B s), .string (B ofs)] := by
    refine rdn_of 4 _ _ rfl fun j hj => ?_
    rw [hkp.rdc hb id]
    rw [List.getElem?_eq_getElem (show j < [Value.int .i64 what, .int .i64 i, .string (B s), .string (B ofs)].length from hj)]
    exact (rdn_at hcells).2 j _ (List.getElem?_eq_getElem _)
  obtain ⟨q, hq⟩ : ∃ q, q = W.heap.size := ⟨_, rfl⟩
  refine Sm.out ?_
  repeat (first | ((fail_if_success (first | refine qY (n := 13) ?_ | refine qV (n := 13) ?_)); refine qS ?_) | refine qB ?_ | refine qT rfl ?_ | refine qF rfl ?_ | ((first | refine qR rfl ?_ | refine qK ?_ | refine qE ?_ | refine qW ?_ | refine qM ?_); try simp -dsimp (disch := first | omega | (simp only [qZ] <;> omega) | fail) only [push_cast, ↓qP, ↓reduceIte, seval, f68, f69, f70, h4, hcw]) | (refine qA ?_ ?_; (first | omega | (simp only [qL]; omega) | (simp only [qD] at *; omega))))
  rw [← hq]
  refine Wp.gen (w := (W.alloc (.cells zAct.toArray 72)).setCells q 0 [.int .i64 what, .int .i64 i, .string (B s), .string (B ofs)]) (A := fun W4 => Kp (fun _ => False) W W4 ∧ Blk W4 q 72 [.int .i64 what, .int .i64 i, .string (B s), .string (B ofs)]) ?_ ?_
  · rw [hq]
    exact ⟨Kp.setCells ((Kp.refl _ W).alloc _) (fun h => absurd h (Nat.lt_irrefl _)) [.int .i64 what, .int .i64 i, .string (B s), .string (B ofs)] 0, Blk.setAll (cs := zAct) (vs := [.int .i64 what, .int .i64 i, .string (B s), .string (B ofs)]) (Blk.new W 72 zAct) rfl⟩
  rintro W4 ⟨k4, hq4⟩
  have hrec4 := hrec.Kp k4
  have hrec34 := hrec3.Kp k4
  have hkp4 := hkp.trans k4
  have hrq : r ≠ q := by obtain ⟨_, _, hb, _⟩ := hrec; have := hb.lt; omega
  have hrq' : r' ≠ q := by obtain ⟨_, _, hb, _⟩ := hrec3; have := hb.lt; omega
  clear hrec hrec3 hkp k4 hq hcw hcells
  have hlt4 := hq4.lt
  rcases Bool.eq_false_or_eq_true ((k : Int) == 40) with h5 | h5
  · repeat (first | refine qS ?_ | refine qB ?_ | refine qT rfl ?_ | refine qF rfl ?_ | ((first | refine qR rfl ?_ | refine qK ?_ | refine qE ?_ | refine qW ?_ | refine qM ?_); try simp -dsimp (disch := first | omega | (simp only [qZ] <;> omega) | fail) only [push_cast, ↓qP, ↓reduceIte, seval, f70, h5]) | (refine qA ?_ ?_; (first | omega | (simp only [qL]; omega) | (simp only [qD] at *; omega))))
    exact Ret.mk ⟨rfl, hkp4⟩
  rcases Bool.eq_false_or_eq_true (decide ((s.length : Int) > 60)) with h6 | h6
  · repeat (first | refine qS ?_ | refine qB ?_ | refine qT rfl ?_ | refine qF rfl ?_ | ((first | refine qR rfl ?_ | refine qK ?_ | refine qE ?_ | refine qW ?_ | refine qM ?_); try simp -dsimp (disch := first | omega | (simp only [qZ] <;> omega) | fail) only [push_cast, ↓qP, ↓reduceIte, seval, f70, h5, h6, hq4.rdc]) | (refine qA ?_ ?_; (first | omega | (simp only [qL]; omega) | (simp only [qD] at *; omega))))
    exact Ret.mk ⟨rfl, hkp4⟩
  rcases Bool.eq_false_or_eq_true (decide ((ofs.length : Int) > 20)) with h7 | h7
  · repeat (first | refine qS ?_ | refine qB ?_ | refine qT rfl ?_ | refine qF rfl ?_ | ((first | refine qR rfl ?_ | refine qK ?_ | refine qE ?_ | refine qW ?_ | refine qM ?_); try simp -dsimp (disch := first | omega | (simp only [qZ] <;> omega) | fail) only [push_cast, ↓qP, ↓reduceIte, seval, f70, h5, h6, h7, hq4.rdc]) | (refine qA ?_ ?_; (first | omega | (simp only [qL]; omega) | (simp only [qD] at *; omega))))
    exact Ret.mk ⟨rfl, hkp4⟩
  have hs60 : s.length ≤ 60 := by have := of_decide_eq_false h6; omega
  have ho20 : ofs.length ≤ 20 := by have := of_decide_eq_false h7; omega
  refine Sm.out ?_
  repeat (first | ((fail_if_success (first | refine qY (n := 16) ?_ | refine qV (n := 16) ?_)); refine qS ?_) | refine qB ?_ | refine qT rfl ?_ | refine qF rfl ?_ | ((first | refine qR rfl ?_ | refine qK ?_ | refine qE ?_ | refine qW ?_ | refine qM ?_); try simp -dsimp (disch := first | omega | (simp only [qZ] <;> omega) | fail) only [push_cast, ↓qP, ↓reduceIte, seval, f70, h5, h6, h7, hq4.rdc]) | (refine qA ?_ ?_; (first | omega | (simp only [qL]; omega) | (simp only [qD] at *; omega))))
  refine Wp.cutQ (fun F W => F 7 = .pointer (some ⟨r, 0, none⟩) ∧ F 11 = .pointer (some ⟨r', 0, none⟩) ∧ F 13 = .pointer (some ⟨q, 0, none⟩) ∧ F 68 = .slice (some ⟨b, o, none⟩) acts.length cap ∧ F 69 = .int .i64 acts.length ∧ F 70 = .int .i64 k ∧ Blk W q 72 [.int .i64 what, .int .i64 i, .string (B s), .string (B ofs)] ∧ Runs w W r r') ?_ ?_
  · rcases Bool.eq_false_or_eq_true (what == 0) with e1 | e1
    · repeat (first | refine qS ?_ | refine qB ?_ | refine qT rfl ?_ | refine qF rfl ?_ | ((first | refine qR rfl ?_ | refine qK ?_ | refine qE ?_ | refine qW ?_ | refine qM ?_); try simp -dsimp (disch := first | omega | (simp only [qZ] <;> omega) | fail) only [push_cast, ↓qP, ↓reduceIte, seval, hq4.rdc, e1]) | (refine qA ?_ ?_; (first | omega | (simp only [qL]; omega) | (simp only [qD] at *; omega))))
      refine Wp.draw [0, 0, 2, 0, 8, 0, 32, 127, 0, 0, 512, 0, 2048, 0, 8192, 32767, 65535] [7, 15] (.op 0 false false [] <| .op 1 false false [] <| .op 2 false false [] <| .op 3 false false [] <| .op 4 false false [] <| .op 5 false false [] <| .op 6 false false [] <| .op 8 false false [] <| .op 9 false false [] <| .op 10 false true [] <| .op 11 false false [] <| .op 12 false true [] <| .op 13 false false [] <| .op 14 false true [] <| .op 7 true false [] <| .op 15 true false [10, 12, 14] <| .op 16 false false [] <| .nil) mixed (by kernel_rfl) ?_
      simp -dsimp (disch := first | omega | (simp only [qZ] <;> omega) | fail) only [push_cast, ↓qP, ↓reduceIte, seval, f7, f11, hq4.rdc]
      by_cases hbad : i < 1 ∨ ¬ i ≤ max 1000 (xs.length : Int)
      · have hrd := hrec4.Kp ((Kp.refl (fun _ => False) W4).drew)
        have hr3d := hrec34.Kp ((Kp.refl (fun _ => False) W4).drew)
        have hm6 : ∀ y ∈ xs, y.length ≤ 1000000 := fun y hy => by have := hxm y hy; omega
        have zb : (false != false) = false := rfl
        refine CallV.of isCall_38 (set_any hrd i hok2 (by omega) s ofs hm6 (by omega) (by omega)) ?_
        intro e W5 hp
        rw [if_pos hbad] at hp
        obtain ⟨rfl, rfl⟩ := hp
        have hq4d : Blk W4.drew q 72 [.int .i64 what, .int .i64 i, .string (B s), .string (B ofs)] := hq4
        have hlt4d := hq4d.lt
        refine Sm.out ?_
        repeat (first | refine qS ?_ | refine qB ?_ | refine qT rfl ?_ | refine qF rfl ?_ | ((first | refine qR rfl ?_ | refine qK ?_ | refine qE ?_ | refine qW ?_ | refine qM ?_); try simp -dsimp (disch := first | omega | (simp only [qZ] <;> omega) | fail) only [push_cast, ↓qP, ↓reduceIte, seval, f7, f11, hq4d.rdc]) | (refine qA ?_ ?_; (first | omega | (simp only [qL]; omega) | (simp only [qD] at *; omega))))
        refine CallV.of isCall_41 (set3_any hr3d i hok2 (by omega) s ofs hm6 (by omega) (by omega)) ?_
        intro e W5 hp
        rw [if_pos hbad] at hp
        obtain ⟨rfl, rfl⟩ := hp
        refine Sm.out ?_
        repeat (first | refine qS ?_ | refine qB ?_ | refine qT rfl ?_ | refine qF rfl ?_ | ((first | refine qR rfl ?_ | refine qK ?_ | refine qE ?_ | refine qW ?_ | refine qM ?_); try simp -dsimp (disch := first | omega | (simp only [qZ] <;> omega) | fail) only [push_cast, ↓qP, ↓reduceIte, seval, f7, f11, zb]) | (refine qA ?_ ?_; (first | omega | (simp only [qL]; omega) | (simp only [qD] at *; omega))))
        exact Mid.mk ⟨by simp [upd, f7], by simp [upd, f11], by simp [upd], by simp [upd, f68], by simp [upd, f69], by simp [upd, f70], hq4, l, xs, hrd, hr3d, hxl, hxm, hr1, hr2, hkp4.drew⟩
      · have hrd := hrec4.Kp ((Kp.refl (fun _ => False) W4).drew)
        have hr3d := hrec34.Kp ((Kp.refl (fun _ => False) W4).drew)
        have hm6 : ∀ y ∈ xs, y.length ≤ 1000000 := fun y hy => by have := hxm y hy; omega
        have zb : (true != true) = false := rfl
        refine CallV.of isCall_38 (set_any hrd i hok2 (by omega) s ofs hm6 (by omega) (by omega)) ?_
        intro e W5 hp
        rw [if_neg hbad] at hp
        obtain ⟨rfl, hrec5, k5⟩ := hp
        have hq5 : Blk W5 q 72 [.int .i64 what, .int .i64 i, .string (B s), .string (B ofs)] := k5.Blk (w := W5) (a := W4.drew) hq4 (fun h => hrq h.symm)
        have hr35 := hr3d.other hrd k5
        have hlt5 := hq5.lt
        refine Sm.out ?_
        repeat (first | refine qS ?_ | refine qB ?_ | refine qT rfl ?_ | refine qF rfl ?_ | ((first | refine qR rfl ?_ | refine qK ?_ | refine qE ?_ | refine qW ?_ | refine qM ?_); try simp -dsimp (disch := first | omega | (simp only [qZ] <;> omega) | fail) only [push_cast, ↓qP, ↓reduceIte, seval, f7, f11, hq5.rdc]) | (refine qA ?_ ?_; (first | omega | (simp only [qL]; omega) | (simp only [qD] at *; omega))))
        refine CallV.of isCall_41 (set3_any hr35 i hok2 (by omega) s ofs hm6 (by omega) (by omega)) ?_
        intro e W6 hp
        rw [if_neg hbad] at hp
        obtain ⟨rfl, hrec36, k6⟩ := hp
        have hrec6 := hrec5.other hr35 k6
        have hq6 := k6.Blk hq5 (fun h => hrq' h.symm)
        refine Sm.out ?_
        repeat (first | refine qS ?_ | refine qB ?_ | refine qT rfl ?_ | refine qF rfl ?_ | ((first | refine qR rfl ?_ | refine qK ?_ | refine qE ?_ | refine qW ?_ | refine qM ?_); try simp -dsimp (disch := first | omega | (simp only [qZ] <;> omega) | fail) only [push_cast, ↓qP, ↓reduceIte, seval, f7, f11, zb]) | (refine qA ?_ ?_; (first | omega | (simp only [qL]; omega) | (simp only [qD] at *; omega))))
        refine Mid.mk ⟨by simp [upd, f7], by simp [upd, f11], by simp [upd], by simp [upd, f68], by simp [upd, f69], by simp [upd, f70], hq6, _, _, hrec6, hrec36, ?_, ?_, hr1, hr2, (hkp4.drew.trans' k5 (fun j hj he => by omega)).trans' k6 (fun j hj he => by omega)⟩
        · rw [setM_len]; omega
        · exact setM_mem hxm (by omega)
    rcases Bool.eq_false_or_eq_true (what == 1) with e2 | e2
    · repeat (first | refine qS ?_ | refine qB ?_ | refine qT rfl ?_ | refine qF rfl ?_ | ((first | refine qR rfl ?_ | refine qK ?_ | refine qE ?_ | refine qW ?_ | refine qM ?_); try simp -dsimp (disch := first | omega | (simp only [qZ] <;> omega) | fail) only [push_cast, ↓qP, ↓reduceIte, seval, hq4.rdc, e1, e2]) | (refine qA ?_ ?_; (first | omega | (simp only [qL]; omega) | (simp only [qD] at *; omega))))
      refine Wp.draw [0, 0, 2, 0, 8, 31, 0, 0, 128, 0, 512, 2047, 4095] [5, 11] (.op 0 false false [] <| .op 1 false false [] <| .op 2 false false [] <| .op 3 false false [] <| .op 4 false false [] <| .op 6 false false [] <| .op 7 false false [] <| .op 8 false true [] <| .op 9 false false [] <| .op 10 false true [] <| .op 5 true false [] <| .op 11 true false [8, 10] <| .op 12 false false [] <| .nil) mixed (by kernel_rfl) ?_
      simp -dsimp (disch := first | omega | (simp only [qZ] <;> omega) | fail) only [push_cast, ↓qP, ↓reduceIte, seval, f7, f11, hq4.rdc]
      by_cases hbad : i < 0 ∨ ¬ i ≤ max 1000 (xs.length : Int)
      · have hrd := hrec4.Kp ((Kp.refl (fun _ => False) W4).drew)
        have hr3d := hrec34.Kp ((Kp.refl (fun _ => False) W4).drew)
        have hm6 : ∀ y ∈ xs, y.length ≤ 1000000 := fun y hy => by have := hxm y hy; omega
        have zb : (false != false) = false := rfl
        refine CallV.of isCall_42 (snf_any hrd i hok2 (by omega) ofs hm6 (by omega)) ?_
        intro e W5 hp
        rw [if_pos hbad] at hp
        obtain ⟨rfl, rfl⟩ := hp
        have hq4d : Blk W4.drew q 72 [.int .i64 what, .int .i64 i, .string (B s), .string (B ofs)] := hq4
        have hlt4d := hq4d.lt
        refine Sm.out ?_
        repeat (first | refine qS ?_ | refine qB ?_ | refine qT rfl ?_ | refine qF rfl ?_ | ((first | refine qR rfl ?_ | refine qK ?_ | refine qE ?_ | refine qW ?_ | refine qM ?_); try simp -dsimp (disch := first | omega | (simp only [qZ] <;> omega) | fail) only [push_cast, ↓qP, ↓reduceIte, seval, f7, f11, hq4d.rdc]) | (refine qA ?_ ?_; (first | omega | (simp only [qL]; omega) | (simp only [qD] at *; omega))))
        refine CallV.of isCall_43 (snf3_any hr3d i hok2 (by omega) ofs hm6 (by omega)) ?_
        intro e W5 hp
        rw [if_pos hbad] at hp
        obtain ⟨rfl, rfl⟩ := hp
        refine Sm.out ?_
        repeat (first | refine qS ?_ | refine qB ?_ | refine qT rfl ?_ | refine qF rfl ?_ | ((first | refine qR rfl ?_ | refine qK ?_ | refine qE ?_ | refine qW ?_ | refine qM ?_); try simp -dsimp (disch := first | omega | (simp only [qZ] <;> omega) | fail) only [push_cast, ↓qP, ↓reduceIte, seval, f7, f11, zb]) | (refine qA ?_ ?_; (first | omega | (simp only [qL]; omega) | (simp only [qD] at *; omega))))
        exact Mid.mk ⟨by simp [upd, f7], by simp [upd, f11], by simp [upd], by simp [upd, f68], by simp [upd, f69], by simp [upd, f70], hq4, l, xs, hrd, hr3d, hxl, hxm, hr1, hr2, hkp4.drew⟩
      · have hrd := hrec4.Kp ((Kp.refl (fun _ => False) W4).drew)
        have hr3d := hrec34.Kp ((Kp.refl (fun _ => False) W4).drew)
        have hm6 : ∀ y ∈ xs, y.length ≤ 1000000 := fun y hy => by have := hxm y hy; omega
        have zb : (true != true) = false := rfl
        refine CallV.of isCall_42 (snf_any hrd i hok2 (by omega) ofs hm6 (by omega)) ?_
        intro e W5 hp
        rw [if_neg hbad] at hp
        obtain ⟨rfl, hrec5, k5⟩ := hp
        have hq5 : Blk W5 q 72 [.int .i64 what, .int .i64 i, .string (B s), .string (B ofs)] := k5.Blk (w := W5) (a := W4.drew) hq4 (fun h => hrq h.symm)
        have hr35 := hr3d.other hrd k5
        have hlt5 := hq5.lt
        refine Sm.out ?_
        repeat (first | refine qS ?_ | refine qB ?_ | refine qT rfl ?_ | refine qF rfl ?_ | ((first | refine qR rfl ?_ | refine qK ?_ | refine qE ?_ | refine qW ?_ | refine qM ?_); try simp -dsimp (disch := first | omega | (simp only [qZ] <;> omega) | fail) only [push_cast, ↓qP, ↓reduceIte, seval, f7, f11, hq5.rdc]) | (refine qA ?_ ?_; (first | omega | (simp only [qL]; omega) | (simp only [qD] at *; omega))))
        refine CallV.of isCall_43 (snf3_any hr35 i hok2 (by omega) ofs hm6 (by omega)) ?_
        intro e W6 hp
        rw [if_neg hbad] at hp
        obtain ⟨rfl, hrec36, k6⟩ := hp
        have hrec6 := hrec5.other hr35 k6
        have hq6 := k6.Blk hq5 (fun h => hrq' h.symm)
        refine Sm.out ?_
        repeat (first | refine qS ?_ | refine qB ?_ | refine qT rfl ?_ | refine qF rfl ?_ | ((first | refine qR rfl ?_ | refine qK ?_ | refine qE ?_ | refine qW ?_ | refine qM ?_); try simp -dsimp (disch := first | omega | (simp only [qZ] <;> omega) | fail) only [push_cast, ↓qP, ↓reduceIte, seval, f7, f11, zb]) | (refine qA ?_ ?_; (first | omega | (simp only [qL]; omega) | (simp only [qD] at *; omega))))
        refine Mid.mk ⟨by simp [upd, f7], by simp [upd, f11], by simp [upd], by simp [upd, f68], by simp [upd, f69], by simp [upd, f70], hq6, _, _, hrec6, hrec36, ?_, ?_, hr1, hr2, (hkp4.drew.trans' k5 (fun j hj he => by omega)).trans' k6 (fun j hj he => by omega)⟩
        · rw [nfM_len _ _]; omega
        · exact nfM_mem hxm
    · repeat (first | refine qS ?_ | refine qB ?_ | refine qT rfl ?_ | refine qF rfl ?_ | ((first | refine qR rfl ?_ | refine qK ?_ | refine qE ?_ | refine qW ?_ | refine qM ?_); try simp -dsimp (disch := first | omega | (simp only [qZ] <;> omega) | fail) only [push_cast, ↓qP, ↓reduceIte, seval, hq4.rdc, e1, e2]) | (refine qA ?_ ?_; (first | omega | (simp only [qL]; omega) | (simp only [qD] at *; omega))))
      exact Mid.mk ⟨by simp [upd, f7], by simp [upd, f11], by simp [upd], by simp [upd, f68], by simp [upd, f69], by simp [upd, f70], hq4, l, xs, hrec4, hrec34, hxl, hxm, hr1, hr2, hkp4⟩
  clear f7 f11 f68 f69 f70 hrec4 hrec34 hkp4 hlt4 hq4 hxl hxm
  rintro F W5 hmid
  obtain ⟨f7, f11, f13, f68, f69, f70, hq5, l, xs, hrec, hrec3, hxl, hxm, hr1, hr2, hkp⟩ := hmid.out
  clear hmid
  have hlt5 := hq5.lt
  repeat (first | refine qS ?_ | refine qB ?_ | refine qT rfl ?_ | refine qF rfl ?_ | ((first | refine qR rfl ?_ | refine qK ?_ | refine qE ?_ | refine qW ?_ | refine qM ?_); try simp -dsimp (disch := first | omega | (simp only [qZ] <;> omega) | fail) only [push_cast, ↓qP, ↓reduceIte, seval, f7, f13, hq5.rdc]) | (refine qA ?_ ?_; (first | omega | (simp only [qL]; omega) | (simp only [qD] at *; omega))))
  refine CallV.of isCall_44 (get_any hrec i hok2 (by omega)) ?_
  rintro _ _ ⟨rfl, rfl⟩
  refine Sm.out ?_
  repeat (first | refine qS ?_ | refine qB ?_ | refine qT rfl ?_ | refine qF rfl ?_ | ((first | refine qR rfl ?_ | refine qK ?_ | refine qE ?_ | refine qW ?_ | refine qM ?_); try simp -dsimp (disch := first | omega | (simp only [qZ] <;> omega) | fail) only [push_cast, ↓qP, ↓reduceIte, seval, f11, f13, hq5.rdc]) | (refine qA ?_ ?_; (first | omega | (simp only [qL]; omega) | (simp only [qD] at *; omega))))
  refine CallV.of isCall_45 (get3_any hrec3 i hok2 (by omega)) ?_
  rintro _ _ ⟨rfl, rfl⟩
  generalize getM l xs i = g at *
  have z1 : (g.1 != g.1) = false := by simp
  have z2 : (g.2 != g.2) = false := by simp
  have z3 : ((xs.length : Int) != (xs.length : Int)) = false := by simp
  have z4 : (l != l) = false := by simp
  have z5 : (!g.1 == g.1) = false := by simp
  have z6 : (!l == l) = false := by simp
  obtain ⟨A3, c3, hb3, _⟩ := id hrec3
  have hlt3 := hb3.lt
  refine Sm.out ?_
  repeat (first | refine qS ?_ | refine qB ?_ | refine qT rfl ?_ | refine qF rfl ?_ | ((first | refine qR rfl ?_ | refine qK ?_ | refine qE ?_ | refine qW ?_ | refine qM ?_); try simp -dsimp (disch := first | omega | (simp only [qZ] <;> omega) | fail) only [push_cast, ↓qP, ↓reduceIte, seval]) | (refine qA ?_ ?_; (first | omega | (simp only [qL]; omega) | (simp only [qD] at *; omega))))
  refine Wp.draw [0, 0, 3, 7, 15, 15, 63, 127, 255, 511, 1023, 511, 2559, 6655, 14847, 31231, 65535, 131071, 262143, 524287, 1048575, 524287, 2621439, 6815743, 15204351, 33554431, 67108863] [10, 20] (.op 0 false false [] <| .op 1 false false [] <| .op 2 false false [] <| .op 3 false false [] <| .op 4 false false [] <| .op 5 false false [] <| .op 6 false false [] <| .op 7 false false [] <| .op 8 false false [] <| .op 9 false false [] <| .op 11 false false [] <| .op 12 false false [] <| .op 13 false false [] <| .op 14 false true [] <| .op 15 false false [] <| .op 10 true false [] <| .op 16 false false [] <| .op 17 false false [] <| .op 18 false false [] <| .op 19 false false [] <| .op 21 false false [] <| .op 22 false false [] <| .op 23 false false [] <| .op 24 false true [] <| .op 20 true false [14] <| .op 25 false false [] <| .op 26 false false [] <| .nil) mixed (by kernel_rfl) ?_
  simp -dsimp (disch := first | omega | (simp only [qZ] <;> omega) | fail) only [push_cast, ↓qP, ↓reduceIte, seval, f7, f11, z1, z2, z5, hb3.rdc]
  have hrd := hrec.Kp ((Kp.refl (fun _ => False) W5).drew)
  have hr3d := hrec3.Kp ((Kp.refl (fun _ => False) W5).drew)
  have hb3d : Blk W5.drew r' 70 [.string (B l), .slice A3 xs.length c3] := hb3
  have hlt3d := hb3d.lt
  have hq5d : Blk W5.drew q 72 [.int .i64 what, .int .i64 i, .string (B s), .string (B ofs)] := hq5
  refine CallV.of isCall_40 (nf_any hrd) ?_
  rintro _ _ ⟨rfl, rfl⟩
  refine Sm.out ?_
  repeat (first | refine qS ?_ | refine qB ?_ | refine qT rfl ?_ | refine qF rfl ?_ | ((first | refine qR rfl ?_ | refine qK ?_ | refine qE ?_ | refine qW ?_ | refine qM ?_); try simp -dsimp (disch := first | omega | (simp only [qZ] <;> omega) | fail) only [push_cast, ↓qP, ↓reduceIte, seval, f7, f11, z3, hb3d.rdc]) | (refine qA ?_ ?_; (first | omega | (simp only [qL]; omega) | (simp only [qD] at *; omega))))
  refine CallV.of isCall_39 (line_any hrd) ?_
  rintro _ _ ⟨rfl, rfl⟩
  have hwr : IntKind.i64.wrap ((k : Int) + 1) = ((k + 1 : Nat) : Int) := by rw [wrap_id (by omega)]; omega
  refine Sm.out ?_
  repeat (first | refine qS ?_ | refine qB ?_ | refine qT rfl ?_ | refine qF rfl ?_ | ((first | refine qR rfl ?_ | refine qK ?_ | refine qE ?_ | refine qW ?_ | refine qM ?_); try simp -dsimp (disch := first | omega | (simp only [qZ] <;> omega) | fail) only [push_cast, ↓qP, ↓reduceIte, seval, f7, f11, f68, f69, f70, z4, z6, hb3d.rdc, hwr]) | (refine qA ?_ ?_; (first | omega | (simp only [qL]; omega) | (simp only [qD] at *; omega))))
  refine Again.mk (k + 1) ⟨?_, ?_, ?_, ?_, ?_, by omega, l, xs, hrd, hr3d, hxl, hxm, hr1, hr2, hkp.drew⟩ (by omega)
  · simp -dsimp (disch := first | omega | (simp only [qZ] <;> omega) | fail) only [push_cast, ↓qP, ↓reduceIte, seval, f7]
  · simp -dsimp (disch := first | omega | (simp only [qZ] <;> omega) | fail) only [push_cast, ↓qP, ↓reduceIte, seval, f11]
  · simp -dsimp (disch := first | omega | (simp only [qZ] <;> omega) | fail) only [push_cast, ↓qP, ↓reduceIte, seval, f68]
  · simp -dsimp (disch := first | omega | (simp only [qZ] <;> omega) | fail) only [push_cast, ↓qP, ↓reduceIte, seval, f69]
  · simp -dsimp (disch := first | omega | (simp only [qZ] <;> omega) | fail) only [push_cast, ↓qP, ↓reduceIte, seval, hwr]
end Go.Proofs.Ytddichibegppjaa
