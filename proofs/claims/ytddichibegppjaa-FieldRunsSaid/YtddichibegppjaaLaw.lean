/- How a law's row follows from a walk that leaves all old memory as it was. -/
import Derived.Test.YtddichibegppjaaFacts
import Derived.Test.YtddichibegppjaaVn
import Derived.ProofKit
import Derived.ChangeStays
import Derived.ChangeBook
import Derived.OpenShut
set_option linter.unusedSimpArgs false
set_option linter.unusedVariables false
namespace Go.Proofs.Ytddichibegppjaa
open Go Go.VC Go.ChangeShapes Go.WideShapes Go.ChangeAt Go.RowKit

section
variable {H : Type} {enc : TypeId × Value → H} {P : Program} {W W' : World}

theorem Kp0_keptBut (h : Kp (fun _ => False) W W') (may : MemPlace → Prop) : W.keptBut W' may := by
  refine ⟨h.os, h.output, fun i hi => ?_⟩
  rw [h.blk i hi id]
  cases hb : W.heap[i]? with
  | none => simp
  | some o => cases o <;> simp

theorem Kp0_sameAt (h : Kp (fun _ => False) W W') {p : MemPlace} (hp : p.block < W.heap.size) : W.sameAt W' p := by
  cases p with
  | cell b off => exact World.cell?_of_block (w := W) (a := ⟨b, off, none⟩) (h.blk b hp id)
  | map b => exact h.blk b hp id

theorem trodAll_kept (hl : laidOutB P = true) (h : Kp (fun _ => False) W W') : ∀ (ts : List TypeId) (vs : List Value) (ds : List (DataW H)) (ps : List MemPlace), (∀ t ∈ ts, t < P.types.size ∧ P.readableRec t = true) →
    DataW.TrodAll enc P W 0 (fun _ => true) true ts vs ds ps → (∀ p ∈ ps, p.block < W.heap.size) → DataW.TrodAll enc P W' 0 (fun b => decide (b < W.heap.size)) true ts vs ds ps
  | [], vs, ds, ps, _, hd, _ => by
    obtain ⟨rfl, rfl, rfl⟩ := trodAll_nil hd
    simp [DataW.TrodAll]
  | t :: ts, vs, ds, ps, ht, hd, hp => by
    obtain ⟨v, vs', d, ds', p, q, rfl, rfl, rfl, ⟨n, h1⟩, h2⟩ := trodAll_cons hd
    refine trodAll_cons_mk ⟨n, ?_⟩ (trodAll_kept hl h ts vs' ds' q (fun t h => ht t (by simp [h])) h2 (fun p hq => hp p (by simp [hq])))
    have hr := (ht t (by simp)).2
    exact DataW.trod_stays (kids_book hl hr) (book_sized hr) (fun h => by cases h) ⟨(ht t (by simp)).1, book_self t⟩ h1
      (fun x hx => Kp0_sameAt h (hp x (by simp; exact .inl hx))) (fun x hx => by simpa using hp x (by simp; exact .inl hx))

theorem law_post {f : Func} {s : ChangeSpec} {apart fresh handsOn : Bool} {args : Array Value} {ds gs : List (DataW H)} {before : List MemPlace} (hl : laidOutB P = true) (hv : s.vars = [])
    (hW : DataW.Whole enc P f.params.toList s.vars apart W args.toList ds gs before) (ht : ∀ t ∈ f.params.toList, t < P.types.size ∧ P.readableRec t = true)
    (hr : f.resultTypes = #[4]) (hb : P.underlying 4 = some .bool) (hfn : ∀ ds, ds.length = f.params.size → s.fn H ds = { results := [.lit (.bool true)], args := ds }) (h : Kp (fun _ => False) W W') :
    s.post enc P f apart fresh handsOn false W args (.bool true) W' := by
  have hlt := hW.lt
  have hW0 := hW
  obtain ⟨p, q, h1, h2, rfl, hz, hn⟩ := hW
  rw [hv] at h2
  obtain ⟨rfl, rfl⟩ := trodVars_none h2
  have hlen : ∀ (ts : List TypeId) (vs : List Value) (ds : List (DataW H)) (ps : List MemPlace), DataW.TrodAll enc P W 0 (fun _ => true) true ts vs ds ps → ds.length = ts.length := by
    intro ts
    induction ts with
    | nil => intro vs ds ps h; obtain ⟨_, rfl, _⟩ := trodAll_nil h; rfl
    | cons t ts ih => intro vs ds ps h; obtain ⟨v, vs', d, ds', p, q, _, rfl, _, _, h2⟩ := trodAll_cons h; simp [ih _ _ _ h2]
  have hfn' := hfn ds (by have := hlen _ _ _ _ h1; simpa using this)
  refine ⟨ds, [], _, [], p, [], hW0, ?_, ?_, ?_, Kp0_keptBut h _, fun h => by cases h⟩
  · simp only [List.append_nil, hfn', hr]
    refine trodAll_mk1 ⟨1, ?_⟩
    simp [DataW.trod, Value.cells, hb]
  · simp only [List.append_nil, hfn']
    exact trodAll_kept hl h _ _ _ _ ht h1 (fun x hx => hlt x (by simp [hx]))
  · rw [hv]
    simp only [List.append_nil, hfn']
    simp [DataW.TrodVars]
end
end Go.Proofs.Ytddichibegppjaa
