/- strings.Builder: WriteString, WriteByte, Len, String, by the kit's contracts. -/
import Derived.Test.YtddichibegppjaaShelf
import Derived.Test.YtddichibegppjaaVo
import Derived.Test.YtddichibegppjaaFacts
set_option linter.unusedSimpArgs false
set_option linter.unusedVariables false
namespace Go.Proofs
open Go.Shelf

def Try.b167_ren : Go.Shelf.Ren := ⟨fun | 166 => 52 | 167 => 55 | 169 => 56 | 240 => 73 | 241 => 91 | 276 => 86 | 277 => 100 | n => n, fun | 31 => 54 | 9 => 9 | 3 => 3 | 4 => 4 | 0 => 0 | 20 => 20 | 72 => 88 | 76 => 91 | 70 => 86 | 37 => 63 | 75 => 90 | 127 => 120 | 164 => 138 | 5 => 5 | 80 => 64 | n => n, fun | n => n⟩
theorem Try.b166 : Go.Proofs.Lays.n166 Try.prog Try.lays156_ren := { Try.lays156 with }
theorem Try.b167 : Go.Proofs.Lays.n167 Try.prog Try.b167_ren := {
  mixed := by kernel_rfl
  f167 := Try.func55.trans (congrArg some (by kernel_rfl))
  f240 := Try.func73.trans (congrArg some (by kernel_rfl))
  f276 := Try.func86.trans (congrArg some (by kernel_rfl))
  t0 := Try.lays156.t0
  a0 := Try.lays156.a0
  z0 := Try.lays156.z0
  v0 := Try.lays156.v0
  t4 := Try.lays156.t4
  a4 := Try.lays156.a4
  z4 := Try.lays156.z4
  v4 := Try.lays156.v4
  t5 := Try.Builder_Extra_156.t5
  a5 := Try.Builder_Extra_156.a5
  z5 := Try.Builder_Extra_156.z5
  v5 := Try.Builder_Extra_156.v5
  t9 := Try.lays156.t9
  a9 := Try.lays156.a9
  z9 := Try.lays156.z9
  v9 := Try.lays156.v9
  t20 := Try.lays156.t20
  a20 := Try.lays156.a20
  z20 := Try.lays156.z20
  v20 := Try.lays156.v20
  t37 := Try.lays156.t37
  a37 := Try.lays156.a37
  z37 := Try.lays156.z37
  v37 := Try.lays156.v37
  t70 := Try.lays156.t70
  a70 := Try.lays156.a70
  z70 := Try.lays156.z70
  v70 := Try.lays156.v70
  t72 := Try.lays156.t72
  a72 := Try.lays156.a72
  z72 := Try.lays156.z72
  v72 := Try.lays156.v72
  t75 := Try.lays156.t75
  a75 := Try.lays156.a75
  z75 := Try.lays156.z75
  v75 := Try.lays156.v75
  t164 := Try.lays156.t164
  a164 := Try.lays156.a164
  z164 := Try.lays156.z164
  v164 := Try.lays156.v164
}
theorem Try.bx167 : Builder.Extra Try.prog Try.b167_ren := {
  sizeBuilder := by kernel_rfl
  liesBuilder := by kernel_rfl
  t5 := Try.underlying5
  a5 := Try.isAgg5
  z5 := Try.sizeOf5
  v5 := Try.zeroValue5
  infoByte := by kernel_rfl
  cellsByte := by kernel_rfl
  sizeByte := by kernel_rfl
  neB5 := by decide }
end Go.Proofs
namespace Go.Proofs.Ytddichibegppjaa
open Go Go.VC Go.RowKit

/-- A builder that holds a text; all that is its own lies from B on. -/
def Bd (B0 b : Nat) (l : List UInt8) (w : World) : Prop := Lib.IsBuilderF 88 5 B0 b (Lib.byteCells l) w ∧ B0 ≤ w.heap.size
theorem strCells_B (l : List UInt8) : Lib.strCells (B l) = Lib.byteCells l := by simp [Lib.strCells, Lib.byteCells, B_toList]
theorem byteCells_len (l : List UInt8) : (Lib.byteCells l).length = l.length := by simp [Lib.byteCells]
theorem byteCells_append (a b : List UInt8) : Lib.byteCells (a ++ b) = Lib.byteCells a ++ Lib.byteCells b := by simp [Lib.byteCells]

section
variable {B0 b : Nat} {l : List UInt8} {w w' : World}
theorem Bd.new (w : World) : Bd w.heap.size w.heap.size [] (w.alloc (.cells #[.pointer none, .slice none 0 0] 88)) := by
  refine ⟨.inl ⟨Nat.le_refl _, .slice none 0 0, ?_, World.ownsRowF_nil _ _ _ _, by simp [Value.ownBlock]⟩, by simp⟩
  exact Blk.new w 88 [.pointer none, .slice none 0 0]
theorem grown_of_Kp (hk : Kp (fun _ => False) w w') : w.grownBy w' none := ⟨hk.os, hk.tape, hk.output, hk.size, fun k h _ => hk.blk k h id⟩
theorem atF_keep {p : Value} {bs : List Value} (h : Lib.BuilderAtF 88 5 B0 b p bs w) (hk : Kp (fun _ => False) w w') : Lib.BuilderAtF 88 5 B0 b p bs w' := by
  have hlt := h.lt
  obtain ⟨hB, v, hb, hown, hne⟩ := h
  exact ⟨hB, v, (hk.blk b hlt id).trans hb, hown.kept (grown_of_Kp hk) (by cases v.ownBlock <;> simp), hne⟩
theorem Bd.keep (h : Bd B0 b l w) (hk : Kp (fun _ => False) w w') : Bd B0 b l w' :=
  ⟨h.1.elim (fun h => .inl (atF_keep h hk)) (fun h => .inr (atF_keep h hk)), Nat.le_trans h.2 hk.size⟩
theorem Below.Kp0 {w0 : World} (h : Below w0.heap.size w w') (hk : Kp (fun _ => False) w0 w) : Kp (fun _ => False) w0 w' :=
  ⟨h.os.trans hk.os, h.tape.trans hk.tape, h.output.trans hk.output, Nat.le_trans hk.size h.size, fun k hk' _ => (h.block k hk').trans (hk.blk k hk' id)⟩
theorem ws_any (h : Bd B0 b l w) (s : List UInt8) (hl : l.length + s.length ≤ 140737488355328) :
    Calls Try.prog 52 #[.pointer (some ⟨b, 0, none⟩), .string (B s)] w fun e w' => e = .returned (.tuple #[.int .i64 s.length, .nilIface]) ∧ Bd B0 b (l ++ s) w' ∧ Below B0 w w' := by
  have := Any.Builder_WriteString_k Try.b166 Try.Builder_Extra_156 B0 b (Lib.byteCells l) (B s) w h.1 (by rw [byteCells_len, B_size]; exact hl) h.2
  refine this.mono fun e w' ⟨h1, h2, h3, h4⟩ => ⟨by rw [h1, B_size], ⟨.inr (by rw [byteCells_append, ← strCells_B s]; exact h2), Nat.le_trans h.2 h3.size⟩, h3⟩
theorem wb_any (h : Bd B0 b l w) (c : UInt8) (hl : l.length + 1 ≤ 140737488355328) :
    Calls Try.prog 55 #[.pointer (some ⟨b, 0, none⟩), by8 c] w fun e w' => e = .returned .nilIface ∧ Bd B0 b (l ++ [c]) w' ∧ Below B0 w w' := by
  have := Any.Builder_WriteByte_k Try.b167 Try.bx167 B0 b (Lib.byteCells l) (c.toNat : Int) w h.1 (by rw [byteCells_len]; exact hl) h.2
  refine this.mono fun e w' ⟨h1, h2, h3, h4⟩ => ⟨h1, ⟨.inr (by rw [byteCells_append]; exact h2), Nat.le_trans h.2 h3.size⟩, h3⟩
theorem bl_any (h : Bd B0 b l w) : Calls Try.prog 54 #[.pointer (some ⟨b, 0, none⟩)] w fun e w' => e = .returned (.int .i64 l.length) ∧ w = w' :=
  (Try.Builder_Len_f B0 b _ w h.1).mono fun e w' ⟨h1, h2⟩ => ⟨by rw [h1, byteCells_len], h2.symm⟩
theorem bs_any (h : Bd B0 b l w) : Calls Try.prog 56 #[.pointer (some ⟨b, 0, none⟩)] w fun e w' => e = .returned (.string (B l)) ∧ Below B0 w w' :=
  (Try.Builder_String_any_k B0 b l w h.1 h.2).mono fun e w' ⟨h1, h2, h3, _⟩ => ⟨h1, h3⟩
end
end Go.Proofs.Ytddichibegppjaa
