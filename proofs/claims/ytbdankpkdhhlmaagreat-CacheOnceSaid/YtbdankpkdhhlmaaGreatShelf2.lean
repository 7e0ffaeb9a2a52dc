/-
  The shelf of contracts laid at this program, in plain declarations: the tables of numbers and the facts on the program. Helper text; no conditions beyond those typed.
-/
import Derived.Shelf.SlicesE.Clone
import Derived.Shelf.Bytes.SlEqualAll
import Derived.Shelf.Bytes.SlSmallAll
import Derived.Ground.NamesProg
import Derived.Ground.SlgnProg
import Derived.Test.YtbdankpkdhhlmaaGreatChecked
namespace Go.Proofs
open Go.Shelf
def Tryz.layCloneB_ren : Go.Shelf.Ren := ⟨fun | 41 => 55 | n => n, fun | 22 => 23 | 23 => 5 | 4 => 4 | n => n, fun | n => n⟩
theorem Tryz.layCloneB : Go.Proofs.SlLaysE0.n41 Tryz.prog Tryz.layCloneB_ren := {
  mixed := by kernel_rfl
  f41 := ⟨Tryz.f55.name, by decide, Tryz.func55.trans (congrArg some (by kernel_rfl))⟩
  t4 := Tryz.underlying4
  a4 := Tryz.isAgg4
  z4 := Tryz.sizeOf4
  v4 := Tryz.zeroValue4
  t22 := Tryz.underlying23
  a22 := Tryz.isAgg23
  z22 := Tryz.sizeOf23
  v22 := Tryz.zeroValue23 }
def Tryz.layEqual_ren : Go.Shelf.Ren := ⟨fun | 115 => 27 | n => n, fun | 37 => 23 | 4 => 4 | 9 => 9 | 5 => 5 | n => n, fun | n => n⟩
theorem Tryz.layEqual : Go.Proofs.Lays.nb115 Tryz.prog Tryz.layEqual_ren := {
  mixed := by kernel_rfl
  f115 := Tryz.func27.trans (congrArg some (by kernel_rfl))
  t4 := Tryz.underlying4
  a4 := Tryz.isAgg4
  z4 := Tryz.sizeOf4
  v4 := Tryz.zeroValue4
  t9 := Tryz.underlying9
  a9 := Tryz.isAgg9
  z9 := Tryz.sizeOf9
  v9 := Tryz.zeroValue9
  t37 := Tryz.underlying23
  a37 := Tryz.isAgg23
  z37 := Tryz.sizeOf23
  v37 := Tryz.zeroValue23
  t5 := Tryz.underlying5
  a5 := Tryz.isAgg5
  z5 := Tryz.sizeOf5
  v5 := Tryz.zeroValue5 }
def Tryz.layCutPrefix_ren : Go.Shelf.Ren := ⟨fun | 141 => 48 | 116 => 73 | 115 => 27 | n => n, fun | 37 => 23 | 4 => 4 | 3 => 3 | 9 => 9 | 5 => 5 | n => n, fun | n => n⟩
theorem Tryz.layCutPrefix : Go.Proofs.Lays.nb141 Tryz.prog Tryz.layCutPrefix_ren := {
  mixed := by kernel_rfl
  f115 := Tryz.func27.trans (congrArg some (by kernel_rfl))
  f116 := Tryz.func73.trans (congrArg some (by kernel_rfl))
  f141 := Tryz.func48.trans (congrArg some (by kernel_rfl))
  t3 := Tryz.underlying3
  a3 := Tryz.isAgg3
  z3 := Tryz.sizeOf3
  v3 := Tryz.zeroValue3
  t4 := Tryz.underlying4
  a4 := Tryz.isAgg4
  z4 := Tryz.sizeOf4
  v4 := Tryz.zeroValue4
  t9 := Tryz.underlying9
  a9 := Tryz.isAgg9
  z9 := Tryz.sizeOf9
  v9 := Tryz.zeroValue9
  t37 := Tryz.underlying23
  a37 := Tryz.isAgg23
  z37 := Tryz.sizeOf23
  v37 := Tryz.zeroValue23
  t5 := Tryz.underlying5
  a5 := Tryz.isAgg5
  z5 := Tryz.sizeOf5
  v5 := Tryz.zeroValue5 }
end Go.Proofs
