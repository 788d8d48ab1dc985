/- Texts as lists of bytes. -/
import Derived.Test.YtddichibegppjaaVl
set_option linter.unusedSimpArgs false
set_option linter.unusedVariables false
namespace Go.VC
open Go
def B (l : List UInt8) : ByteArray := ⟨l.toArray⟩
theorem B_mk (l : List UInt8) : ByteArray.mk l.toArray = B l := rfl
theorem B_size (l : List UInt8) : (B l).size = l.length := by simp [B, ByteArray.size]
theorem B_toList (l : List UInt8) : (B l).data.toList = l := by simp [B]
theorem B_of (s : ByteArray) : B s.data.toList = s := by simp [B]
theorem B_append (a b : List UInt8) : B a ++ B b = B (a ++ b) := by
  apply ByteArray.ext
  simp [B]
theorem B_extract (l : List UInt8) (i j : Nat) : (B l).extract i j = B ((l.drop i).take (j - i)) := by
  apply ByteArray.ext
  apply Array.toList_inj.1
  simp [B]
theorem bt_B (l : List UInt8) (i : Nat) : bt (B l) i = ((l.getD i 0).toNat : Int) := by simp [bt, B_toList]
theorem B_inj {a b : List UInt8} (h : B a = B b) : a = b := by have := congrArg (·.data.toList) h; simpa [B_toList] using this
attribute [push_cast] B_mk B_size B_toList B_append B_extract bt_B
end Go.VC
