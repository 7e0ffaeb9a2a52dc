/-
  The shelf of contracts laid at this program, in plain declarations: the tables of numbers and the facts on the program. Helper text; no conditions beyond those typed.
-/
import Derived.Shelf.Spec.TrailingZeros
import Derived.Ground.Names7Prog
import Derived.Test.YtieahneoofdneaaDoorChecked
namespace Go.Proofs
open Go.Shelf
def Tryd.layTZ_ren : Go.Shelf.Ren := ⟨fun | 29 => 18 | n => n, fun | 22 => 24 | 3 => 3 | 4 => 4 | 25 => 50 | 54 => 54 | 0 => 0 | 5 => 5 | n => n, fun | 1 => 0 | n => n⟩
theorem Tryd.layTZ : Go.Proofs.Lays7.n29 Tryd.prog Tryd.layTZ_ren := {
  mixed := by kernel_rfl
  f29 := Tryd.func18.trans (congrArg some (by kernel_rfl))
  t0 := Tryd.underlying0
  a0 := Tryd.isAgg0
  z0 := Tryd.sizeOf0
  v0 := Tryd.zeroValue0
  i0 := by kernel_rfl
  t3 := Tryd.underlying3
  a3 := Tryd.isAgg3
  z3 := Tryd.sizeOf3
  v3 := Tryd.zeroValue3
  i3 := by kernel_rfl
  t4 := Tryd.underlying4
  a4 := Tryd.isAgg4
  z4 := Tryd.sizeOf4
  v4 := Tryd.zeroValue4
  i4 := by kernel_rfl
  t5 := Tryd.underlying5
  a5 := Tryd.isAgg5
  z5 := Tryd.sizeOf5
  v5 := Tryd.zeroValue5
  i5 := by kernel_rfl
  t22 := Tryd.underlying24
  a22 := Tryd.isAgg24
  z22 := Tryd.sizeOf24
  v22 := Tryd.zeroValue24
  i22 := by kernel_rfl
  t25 := Tryd.underlying50
  a25 := Tryd.isAgg50
  z25 := Tryd.sizeOf50
  v25 := Tryd.zeroValue50
  i25 := by kernel_rfl
  t54 := Tryd.underlying54
  a54 := Tryd.isAgg54
  z54 := Tryd.sizeOf54
  g1 := by kernel_rfl }
end Go.Proofs
