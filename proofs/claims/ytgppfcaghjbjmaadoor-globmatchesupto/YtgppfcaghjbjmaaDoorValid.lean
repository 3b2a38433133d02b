/- The library's check of UTF-8, laid at this program. -/
import Derived.Test.YtgppfcaghjbjmaaDoorLib
import Derived.Test.YtgppfcaghjbjmaaDoorShelf
import Derived.Shelf.Unicode.ValidAny
import Derived.Lib.LaidU8T
namespace Go.Proofs.YtgppfcaghjbjmaaDoor
open Go.RowKit

def lays196_ren : Go.Shelf.Ren := ⟨fun | 196 => 56 | 259 => 75 | n => n, fun | 9 => 9 | 3 => 3 | 4 => 4 | 5 => 5 | 0 => 0 | 12 => 12 | 46 => 85 | 53 => 94 | 119 => 81 | 139 => 84 | 138 => 83 | n => n, fun | 3 => 1 | 4 => 2 | n => n⟩
theorem lays196 : Go.Proofs.Lays.n196 Tryd.prog lays196_ren := {
  mixed := by kernel_rfl
  f196 := Tryd.func56.trans (congrArg some (by kernel_rfl))
  f259 := Tryd.func75.trans (congrArg some (by kernel_rfl))
  t0 := Tryd.underlying0
  a0 := Tryd.isAgg0
  z0 := Tryd.sizeOf0
  v0 := Tryd.zeroValue0
  t3 := Tryd.underlying3
  a3 := Tryd.isAgg3
  z3 := Tryd.sizeOf3
  v3 := Tryd.zeroValue3
  t4 := Tryd.underlying4
  a4 := Tryd.isAgg4
  z4 := Tryd.sizeOf4
  v4 := Tryd.zeroValue4
  t5 := Tryd.underlying5
  a5 := Tryd.isAgg5
  z5 := Tryd.sizeOf5
  v5 := Tryd.zeroValue5
  t9 := Tryd.underlying9
  a9 := Tryd.isAgg9
  z9 := Tryd.sizeOf9
  v9 := Tryd.zeroValue9
  t12 := Tryd.underlying12
  a12 := Tryd.isAgg12
  z12 := Tryd.sizeOf12
  v12 := Tryd.zeroValue12
  t46 := Tryd.underlying85
  a46 := Tryd.isAgg85
  z46 := Tryd.sizeOf85
  v46 := Tryd.zeroValue85
  t53 := Tryd.underlying94
  a53 := Tryd.isAgg94
  z53 := Tryd.sizeOf94
  v53 := Tryd.zeroValue94
  t119 := Tryd.underlying81
  a119 := Tryd.isAgg81
  z119 := Tryd.sizeOf81
  t138 := Tryd.underlying83
  a138 := Tryd.isAgg83
  z138 := Tryd.sizeOf83
  v138 := Tryd.zeroValue83
  t139 := Tryd.underlying84
  a139 := Tryd.isAgg84
  z139 := Tryd.sizeOf84
  v139 := Tryd.zeroValue84
  g3 := by kernel_rfl
  g4 := by kernel_rfl }

/-- The two tables lie where they lie. -/
def Tabs (w : World) : Prop := Lib.Utf8Tabs 1 2 w

theorem ValidString_any (l : List UInt8) (w : World) (hl : l.length ≤ 4294967296) (hT : Tabs w) :
    Calls Tryd.prog 56 #[.string ⟨l.toArray⟩] w (Ret w (.bool (Lib.validD l))) :=
  (Any.utf8_ValidString lays196 ⟨l.toArray⟩ w (by simp [ByteArray.size]; omega) hT).mono fun _ _ ⟨he, hw⟩ => ⟨he, hw⟩
end Go.Proofs.YtgppfcaghjbjmaaDoor
