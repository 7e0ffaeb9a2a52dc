/-
  The shelf of contracts laid at this program, in plain declarations: the tables of numbers and the facts on the program. Helper text; no conditions beyond those typed.
-/
import Derived.Shelf.Slices.Clone
import Derived.Shelf.Slices.CompactI
import Derived.Shelf.Sort.Plain
import Derived.Shelf.Slices.In.SortNone
import Derived.Shelf.SlicesE.Clone
import Derived.Ground.NamesProg
import Derived.Ground.Names2Prog
import Derived.Ground.SlgnProg
import Derived.Test.YtieahneoofdneaaDoorChecked
namespace Go.Proofs
open Go.Shelf
def Tryd.laysClone_ren : Go.Shelf.Ren := ⟨fun | 15 => 19 | n => n, fun | 22 => 28 | 3 => 3 | 4 => 4 | n => n, fun | n => n⟩
theorem Tryd.laysClone : Go.Proofs.Lays2.n15 Tryd.prog Tryd.laysClone_ren := {
  mixed := by kernel_rfl
  f15 := Tryd.func19.trans (congrArg some (by kernel_rfl))
  t3 := Tryd.underlying3
  a3 := Tryd.isAgg3
  z3 := Tryd.sizeOf3
  v3 := Tryd.zeroValue3
  t4 := Tryd.underlying4
  a4 := Tryd.isAgg4
  z4 := Tryd.sizeOf4
  v4 := Tryd.zeroValue4
  t22 := Tryd.underlying28
  a22 := Tryd.isAgg28
  z22 := Tryd.sizeOf28
  v22 := Tryd.zeroValue28
  i3 := by kernel_rfl }
def Tryd.laysSort_ren : Go.Shelf.Ren := ⟨fun | 189 => 20 | 125 => 24 | 257 => 23 | 128 => 34 | 129 => 35 | 294 => 25 | 295 => 26 | 296 => 27 | 297 => 28 | 298 => 29 | 299 => 30 | 216 => 31 | 300 => 32 | 301 => 33 | 328 => 36 | 329 => 37 | 330 => 38 | 331 => 39 | 332 => 40 | 215 => 41 | 343 => 42 | n => n, fun | 28 => 28 | 3 => 3 | 46 => 50 | 0 => 0 | 51 => 67 | 53 => 24 | 4 => 4 | 183 => 59 | 182 => 58 | 131 => 64 | 5 => 5 | 9 => 9 | 218 => 68 | 222 => 72 | 228 => 74 | 229 => 75 | n => n, fun | n => n⟩
theorem Tryd.laysSort : Go.Proofs.Lays.n189 Tryd.prog Tryd.laysSort_ren := {
  mixed := by kernel_rfl
  f125 := Tryd.func24.trans (congrArg some (by kernel_rfl))
  f128 := Tryd.func34.trans (congrArg some (by kernel_rfl))
  f129 := Tryd.func35.trans (congrArg some (by kernel_rfl))
  f189 := Tryd.func20.trans (congrArg some (by kernel_rfl))
  f215 := Tryd.func41.trans (congrArg some (by kernel_rfl))
  f216 := Tryd.func31.trans (congrArg some (by kernel_rfl))
  f257 := Tryd.func23.trans (congrArg some (by kernel_rfl))
  f294 := Tryd.func25.trans (congrArg some (by kernel_rfl))
  f295 := Tryd.func26.trans (congrArg some (by kernel_rfl))
  f296 := Tryd.func27.trans (congrArg some (by kernel_rfl))
  f297 := Tryd.func28.trans (congrArg some (by kernel_rfl))
  f298 := Tryd.func29.trans (congrArg some (by kernel_rfl))
  f299 := Tryd.func30.trans (congrArg some (by kernel_rfl))
  f300 := Tryd.func32.trans (congrArg some (by kernel_rfl))
  f301 := Tryd.func33.trans (congrArg some (by kernel_rfl))
  f328 := Tryd.func36.trans (congrArg some (by kernel_rfl))
  f329 := Tryd.func37.trans (congrArg some (by kernel_rfl))
  f330 := Tryd.func38.trans (congrArg some (by kernel_rfl))
  f331 := Tryd.func39.trans (congrArg some (by kernel_rfl))
  f332 := Tryd.func40.trans (congrArg some (by kernel_rfl))
  f343 := Tryd.func42.trans (congrArg some (by kernel_rfl))
  t0 := Tryd.underlying0
  a0 := Tryd.isAgg0
  z0 := Tryd.sizeOf0
  v0 := Tryd.zeroValue0
  t3 := Tryd.underlying3
  a3 := Tryd.isAgg3
  z3 := Tryd.sizeOf3
  v3 := Tryd.zeroValue3
  t4 := Tryd.underlying4
  a4 := Tryd.isAgg4
  z4 := Tryd.sizeOf4
  v4 := Tryd.zeroValue4
  t5 := Tryd.underlying5
  a5 := Tryd.isAgg5
  z5 := Tryd.sizeOf5
  v5 := Tryd.zeroValue5
  t9 := Tryd.underlying9
  a9 := Tryd.isAgg9
  z9 := Tryd.sizeOf9
  v9 := Tryd.zeroValue9
  t28 := Tryd.underlying28
  a28 := Tryd.isAgg28
  z28 := Tryd.sizeOf28
  v28 := Tryd.zeroValue28
  t46 := Tryd.underlying50
  a46 := Tryd.isAgg50
  z46 := Tryd.sizeOf50
  v46 := Tryd.zeroValue50
  t51 := Tryd.underlying67
  a51 := Tryd.isAgg67
  z51 := Tryd.sizeOf67
  v51 := Tryd.zeroValue67
  t53 := Tryd.underlying24
  a53 := Tryd.isAgg24
  z53 := Tryd.sizeOf24
  v53 := Tryd.zeroValue24
  t131 := Tryd.underlying64
  a131 := Tryd.isAgg64
  z131 := Tryd.sizeOf64
  v131 := Tryd.zeroValue64
  t182 := Tryd.underlying58
  a182 := Tryd.isAgg58
  z182 := Tryd.sizeOf58
  v182 := Tryd.zeroValue58
  t183 := Tryd.underlying59
  a183 := Tryd.isAgg59
  z183 := Tryd.sizeOf59
  v183 := Tryd.zeroValue59
  t218 := Tryd.underlying68
  a218 := Tryd.isAgg68
  z218 := Tryd.sizeOf68
  v218 := Tryd.zeroValue68
  t222 := Tryd.underlying72
  a222 := Tryd.isAgg72
  z222 := Tryd.sizeOf72
  v222 := Tryd.zeroValue72
  t228 := Tryd.underlying74
  a228 := Tryd.isAgg74
  z228 := Tryd.sizeOf74
  v228 := Tryd.zeroValue74
  t229 := Tryd.underlying75
  a229 := Tryd.isAgg75
  z229 := Tryd.sizeOf75
  v229 := Tryd.zeroValue75 }
def Tryd.laysCompact_ren : Go.Shelf.Ren := ⟨fun | 20 => 21 | n => n, fun | 22 => 28 | 3 => 3 | 4 => 4 | 0 => 0 | n => n, fun | n => n⟩
theorem Tryd.laysCompact : Go.Proofs.Lays2.n20 Tryd.prog Tryd.laysCompact_ren := {
  mixed := by kernel_rfl
  f20 := Tryd.func21.trans (congrArg some (by kernel_rfl))
  t0 := Tryd.underlying0
  a0 := Tryd.isAgg0
  z0 := Tryd.sizeOf0
  v0 := Tryd.zeroValue0
  t3 := Tryd.underlying3
  a3 := Tryd.isAgg3
  z3 := Tryd.sizeOf3
  v3 := Tryd.zeroValue3
  t4 := Tryd.underlying4
  a4 := Tryd.isAgg4
  z4 := Tryd.sizeOf4
  v4 := Tryd.zeroValue4
  t22 := Tryd.underlying28
  a22 := Tryd.isAgg28
  z22 := Tryd.sizeOf28
  v22 := Tryd.zeroValue28
  i3 := by kernel_rfl }
def Tryd.laysCloneB_ren : Go.Shelf.Ren := ⟨fun | 41 => 22 | n => n, fun | 22 => 44 | 23 => 5 | 4 => 4 | n => n, fun | n => n⟩
theorem Tryd.laysCloneB : Go.Proofs.SlLaysE0.n41 Tryd.prog Tryd.laysCloneB_ren := {
  mixed := by kernel_rfl
  f41 := ⟨Tryd.f22.name, by decide, Tryd.func22.trans (congrArg some (by kernel_rfl))⟩
  t4 := Tryd.underlying4
  a4 := Tryd.isAgg4
  z4 := Tryd.sizeOf4
  v4 := Tryd.zeroValue4
  t22 := Tryd.underlying44
  a22 := Tryd.isAgg44
  z22 := Tryd.sizeOf44
  v22 := Tryd.zeroValue44 }
end Go.Proofs
