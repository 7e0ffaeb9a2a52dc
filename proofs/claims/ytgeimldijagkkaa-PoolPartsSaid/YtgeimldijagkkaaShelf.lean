/-
  The shelf of contracts laid at this program, in plain declarations: the tables of numbers and the facts on the program. Helper text; no conditions beyond those typed.
-/
import Derived.Shelf.Small.Strs
import Derived.Shelf.Strings.Search1
import Derived.Shelf.Strings.Search2
import Derived.Shelf.Strings.Search3
import Derived.Shelf.Strings.LastIndex
import Derived.Shelf.Strings.Prefix
import Derived.Shelf.GgClosure.StringsIndexFuncTop
import Derived.Shelf.SlicesE.IndexFunc
import Derived.Shelf.SlicesE.Clone
import Derived.Shelf.SlicesQ.IndexFunc
import Derived.Shelf.Slices.Turned
import Derived.Shelf.Slices.Clone
import Derived.Ground.NamesProg
import Derived.Ground.Names2Prog
import Derived.Ground.SlgnProg
import Derived.Ground.SlgfProg
import Derived.Ground.GgwProg
import Derived.Test.YtgeimldijagkkaaChecked
namespace Go.Proofs
open Go.Shelf
def Try.layIndexByte_ren : Go.Shelf.Ren := ⟨fun | 137 => 49 | 217 => 71 | 266 => 84 | n => n, fun | 9 => 9 | 5 => 5 | 3 => 3 | n => n, fun | n => n⟩
theorem Try.layIndexByte : Go.Proofs.Lays.n137 Try.prog Try.layIndexByte_ren := {
  mixed := by kernel_rfl
  f137 := Try.func49.trans (congrArg some (by kernel_rfl))
  f217 := Try.func71.trans (congrArg some (by kernel_rfl))
  f266 := Try.func84.trans (congrArg some (by kernel_rfl))
  t3 := Try.underlying3
  a3 := Try.isAgg3
  z3 := Try.sizeOf3
  v3 := Try.zeroValue3
  t5 := Try.underlying5
  a5 := Try.isAgg5
  z5 := Try.sizeOf5
  v5 := Try.zeroValue5
  t9 := Try.underlying9
  a9 := Try.isAgg9
  z9 := Try.sizeOf9
  v9 := Try.zeroValue9 }
def Try.layIndex_ren : Go.Shelf.Ren := ⟨fun | 219 => 85 | 217 => 71 | 225 => 88 | 224 => 89 | 267 => 90 | 266 => 84 | 314 => 92 | n => n, fun | 9 => 9 | 3 => 3 | 4 => 4 | 5 => 5 | 46 => 104 | 146 => 107 | 51 => 106 | n => n, fun | 1 => 0 | n => n⟩
theorem Try.layIndex : Go.Proofs.Lays.n219 Try.prog Try.layIndex_ren := {
  mixed := by kernel_rfl
  f217 := Try.func71.trans (congrArg some (by kernel_rfl))
  f219 := Try.func85.trans (congrArg some (by kernel_rfl))
  f224 := Try.func89.trans (congrArg some (by kernel_rfl))
  f225 := Try.func88.trans (congrArg some (by kernel_rfl))
  f266 := Try.func84.trans (congrArg some (by kernel_rfl))
  f267 := Try.func90.trans (congrArg some (by kernel_rfl))
  f314 := Try.func92.trans (congrArg some (by kernel_rfl))
  t3 := Try.underlying3
  a3 := Try.isAgg3
  z3 := Try.sizeOf3
  v3 := Try.zeroValue3
  t4 := Try.underlying4
  a4 := Try.isAgg4
  z4 := Try.sizeOf4
  v4 := Try.zeroValue4
  t5 := Try.underlying5
  a5 := Try.isAgg5
  z5 := Try.sizeOf5
  v5 := Try.zeroValue5
  t9 := Try.underlying9
  a9 := Try.isAgg9
  z9 := Try.sizeOf9
  v9 := Try.zeroValue9
  t46 := Try.underlying104
  a46 := Try.isAgg104
  z46 := Try.sizeOf104
  v46 := Try.zeroValue104
  t51 := Try.underlying106
  a51 := Try.isAgg106
  z51 := Try.sizeOf106
  v51 := Try.zeroValue106
  t146 := Try.underlying107
  a146 := Try.isAgg107
  z146 := Try.sizeOf107
  v146 := Try.zeroValue107
  g1 := by kernel_rfl }
def Try.layContains_ren : Go.Shelf.Ren := ⟨fun | 144 => 53 | 143 => 74 | 219 => 85 | 217 => 71 | 225 => 88 | 224 => 89 | 267 => 90 | 266 => 84 | 314 => 92 | n => n, fun | 9 => 9 | 4 => 4 | 3 => 3 | 5 => 5 | 46 => 104 | 146 => 107 | 51 => 106 | n => n, fun | 1 => 0 | n => n⟩
theorem Try.layContains : Go.Proofs.Lays.n144 Try.prog Try.layContains_ren := {
  mixed := by kernel_rfl
  f143 := Try.func74.trans (congrArg some (by kernel_rfl))
  f144 := Try.func53.trans (congrArg some (by kernel_rfl))
  f217 := Try.func71.trans (congrArg some (by kernel_rfl))
  f219 := Try.func85.trans (congrArg some (by kernel_rfl))
  f224 := Try.func89.trans (congrArg some (by kernel_rfl))
  f225 := Try.func88.trans (congrArg some (by kernel_rfl))
  f266 := Try.func84.trans (congrArg some (by kernel_rfl))
  f267 := Try.func90.trans (congrArg some (by kernel_rfl))
  f314 := Try.func92.trans (congrArg some (by kernel_rfl))
  t3 := Try.underlying3
  a3 := Try.isAgg3
  z3 := Try.sizeOf3
  v3 := Try.zeroValue3
  t4 := Try.underlying4
  a4 := Try.isAgg4
  z4 := Try.sizeOf4
  v4 := Try.zeroValue4
  t5 := Try.underlying5
  a5 := Try.isAgg5
  z5 := Try.sizeOf5
  v5 := Try.zeroValue5
  t9 := Try.underlying9
  a9 := Try.isAgg9
  z9 := Try.sizeOf9
  v9 := Try.zeroValue9
  t46 := Try.underlying104
  a46 := Try.isAgg104
  z46 := Try.sizeOf104
  v46 := Try.zeroValue104
  t51 := Try.underlying106
  a51 := Try.isAgg106
  z51 := Try.sizeOf106
  v51 := Try.zeroValue106
  t146 := Try.underlying107
  a146 := Try.isAgg107
  z146 := Try.sizeOf107
  v146 := Try.zeroValue107
  g1 := by kernel_rfl }
def Try.layLast_ren : Go.Shelf.Ren := ⟨fun | 149 => 52 | 222 => 73 | n => n, fun | 9 => 9 | 5 => 5 | 3 => 3 | 4 => 4 | n => n, fun | n => n⟩
theorem Try.layLast : Go.Proofs.Lays.n149 Try.prog Try.layLast_ren := {
  mixed := by kernel_rfl
  f149 := Try.func52.trans (congrArg some (by kernel_rfl))
  f222 := Try.func73.trans (congrArg some (by kernel_rfl))
  t3 := Try.underlying3
  a3 := Try.isAgg3
  z3 := Try.sizeOf3
  v3 := Try.zeroValue3
  t4 := Try.underlying4
  a4 := Try.isAgg4
  z4 := Try.sizeOf4
  v4 := Try.zeroValue4
  t5 := Try.underlying5
  a5 := Try.isAgg5
  z5 := Try.sizeOf5
  v5 := Try.zeroValue5
  t9 := Try.underlying9
  a9 := Try.isAgg9
  z9 := Try.sizeOf9
  v9 := Try.zeroValue9 }
def Try.layPrefix_ren : Go.Shelf.Ren := ⟨fun | 99 => 32 | 206 => 60 | n => n, fun | 9 => 9 | 4 => 4 | 3 => 3 | n => n, fun | n => n⟩
theorem Try.layPrefix : Go.Proofs.Lays.n99 Try.prog Try.layPrefix_ren := {
  mixed := by kernel_rfl
  f99 := Try.func32.trans (congrArg some (by kernel_rfl))
  f206 := Try.func60.trans (congrArg some (by kernel_rfl))
  t3 := Try.underlying3
  a3 := Try.isAgg3
  z3 := Try.sizeOf3
  v3 := Try.zeroValue3
  t4 := Try.underlying4
  a4 := Try.isAgg4
  z4 := Try.sizeOf4
  v4 := Try.zeroValue4
  t9 := Try.underlying9
  a9 := Try.isAgg9
  z9 := Try.sizeOf9
  v9 := Try.zeroValue9 }
def Try.layIndexS_ren : Go.Shelf.Ren := ⟨fun | 109 => 75 | n => n, fun | 31 => 24 | 9 => 9 | 3 => 3 | 0 => 0 | 4 => 4 | n => n, fun | n => n⟩
theorem Try.layIndexS : Go.Proofs.Lays.n109 Try.prog Try.layIndexS_ren := {
  mixed := by kernel_rfl
  f109 := Try.func75.trans (congrArg some (by kernel_rfl))
  t0 := Try.underlying0
  a0 := Try.isAgg0
  z0 := Try.sizeOf0
  v0 := Try.zeroValue0
  t3 := Try.underlying3
  a3 := Try.isAgg3
  z3 := Try.sizeOf3
  v3 := Try.zeroValue3
  t4 := Try.underlying4
  a4 := Try.isAgg4
  z4 := Try.sizeOf4
  v4 := Try.zeroValue4
  t9 := Try.underlying9
  a9 := Try.isAgg9
  z9 := Try.sizeOf9
  v9 := Try.zeroValue9
  t31 := Try.underlying24
  a31 := Try.isAgg24
  z31 := Try.sizeOf24
  v31 := Try.zeroValue24 }
def Try.layContainsS_ren : Go.Shelf.Ren := ⟨fun | 110 => 54 | 109 => 75 | n => n, fun | 31 => 24 | 9 => 9 | 4 => 4 | 3 => 3 | 0 => 0 | n => n, fun | n => n⟩
theorem Try.layContainsS : Go.Proofs.Lays.n110 Try.prog Try.layContainsS_ren := {
  mixed := by kernel_rfl
  f109 := Try.func75.trans (congrArg some (by kernel_rfl))
  f110 := Try.func54.trans (congrArg some (by kernel_rfl))
  t0 := Try.underlying0
  a0 := Try.isAgg0
  z0 := Try.sizeOf0
  v0 := Try.zeroValue0
  t3 := Try.underlying3
  a3 := Try.isAgg3
  z3 := Try.sizeOf3
  v3 := Try.zeroValue3
  t4 := Try.underlying4
  a4 := Try.isAgg4
  z4 := Try.sizeOf4
  v4 := Try.zeroValue4
  t9 := Try.underlying9
  a9 := Try.isAgg9
  z9 := Try.sizeOf9
  v9 := Try.zeroValue9
  t31 := Try.underlying24
  a31 := Try.isAgg24
  z31 := Try.sizeOf24
  v31 := Try.zeroValue24 }
def Try.layCloneI_ren : Go.Shelf.Ren := ⟨fun | 15 => 44 | n => n, fun | 22 => 45 | 3 => 3 | 4 => 4 | n => n, fun | n => n⟩
theorem Try.layCloneI : Go.Proofs.Lays2.n15 Try.prog Try.layCloneI_ren := {
  mixed := by kernel_rfl
  f15 := Try.func44.trans (congrArg some (by kernel_rfl))
  t3 := Try.underlying3
  a3 := Try.isAgg3
  z3 := Try.sizeOf3
  v3 := Try.zeroValue3
  t4 := Try.underlying4
  a4 := Try.isAgg4
  z4 := Try.sizeOf4
  v4 := Try.zeroValue4
  t22 := Try.underlying45
  a22 := Try.isAgg45
  z22 := Try.sizeOf45
  v22 := Try.zeroValue45
  i3 := by kernel_rfl }
def Try.layCloneS_ren : Go.Shelf.Ren := ⟨fun | 16 => 70 | n => n, fun | 24 => 24 | 9 => 9 | 4 => 4 | n => n, fun | n => n⟩
theorem Try.layCloneS : Go.Proofs.Lays2.n16 Try.prog Try.layCloneS_ren := {
  mixed := by kernel_rfl
  f16 := Try.func70.trans (congrArg some (by kernel_rfl))
  t4 := Try.underlying4
  a4 := Try.isAgg4
  z4 := Try.sizeOf4
  v4 := Try.zeroValue4
  t9 := Try.underlying9
  a9 := Try.isAgg9
  z9 := Try.sizeOf9
  v9 := Try.zeroValue9
  t24 := Try.underlying24
  a24 := Try.isAgg24
  z24 := Try.sizeOf24
  v24 := Try.zeroValue24
  i9 := by kernel_rfl }
def Try.layCloneR_ren : Go.Shelf.Ren := ⟨fun | 41 => 43 | n => n, fun | 22 => 31 | 23 => 34 | 4 => 4 | n => n, fun | n => n⟩
theorem Try.layCloneR : Go.Proofs.SlLaysE0.n41 Try.prog Try.layCloneR_ren := {
  mixed := by kernel_rfl
  f41 := ⟨Try.f43.name, by decide, Try.func43.trans (congrArg some (by kernel_rfl))⟩
  t4 := Try.underlying4
  a4 := Try.isAgg4
  z4 := Try.sizeOf4
  v4 := Try.zeroValue4
  t22 := Try.underlying31
  a22 := Try.isAgg31
  z22 := Try.sizeOf31
  v22 := Try.zeroValue31 }
def Try.layCloneD_ren : Go.Shelf.Ren := ⟨fun | 41 => 83 | n => n, fun | 22 => 23 | 23 => 85 | 4 => 4 | n => n, fun | n => n⟩
theorem Try.layCloneD : Go.Proofs.SlLaysE0.n41 Try.prog Try.layCloneD_ren := {
  mixed := by kernel_rfl
  f41 := ⟨Try.f83.name, by decide, Try.func83.trans (congrArg some (by kernel_rfl))⟩
  t4 := Try.underlying4
  a4 := Try.isAgg4
  z4 := Try.sizeOf4
  v4 := Try.zeroValue4
  t22 := Try.underlying23
  a22 := Try.isAgg23
  z22 := Try.sizeOf23
  v22 := Try.zeroValue23 }
def Try.layAnyS_ren : Go.Shelf.Ren := ⟨fun | 8 => 30 | 6 => 59 | n => n, fun | 22 => 24 | 23 => 9 | 25 => 57 | 4 => 4 | 3 => 3 | 0 => 0 | n => n, fun | n => n⟩
theorem Try.layAnyS : Go.Proofs.SlLaysH.n8 Try.prog Try.layAnyS_ren := {
  mixed := by kernel_rfl
  f6 := ⟨Try.f59.name, by decide, Try.func59.trans (congrArg some (by kernel_rfl))⟩
  f8 := ⟨Try.f30.name, by decide, Try.func30.trans (congrArg some (by kernel_rfl))⟩
  t0 := Try.underlying0
  a0 := Try.isAgg0
  z0 := Try.sizeOf0
  v0 := Try.zeroValue0
  t3 := Try.underlying3
  a3 := Try.isAgg3
  z3 := Try.sizeOf3
  v3 := Try.zeroValue3
  t4 := Try.underlying4
  a4 := Try.isAgg4
  z4 := Try.sizeOf4
  v4 := Try.zeroValue4
  t22 := Try.underlying24
  a22 := Try.isAgg24
  z22 := Try.sizeOf24
  v22 := Try.zeroValue24
  a23 := Try.isAgg9
  z23 := Try.sizeOf9
  t25 := Try.underlying57
  a25 := Try.isAgg57
  z25 := Try.sizeOf57
  v25 := Try.zeroValue57 }
def Try.layAnyR_ren : Go.Shelf.Ren := ⟨fun | 8 => 39 | 6 => 68 | n => n, fun | 22 => 31 | 23 => 34 | 25 => 68 | 4 => 4 | 3 => 3 | 0 => 0 | n => n, fun | n => n⟩
theorem Try.layAnyR : Go.Proofs.SlLaysH0.n8 Try.prog Try.layAnyR_ren := {
  mixed := by kernel_rfl
  f6 := ⟨Try.f68.name, by decide, Try.func68.trans (congrArg some (by kernel_rfl))⟩
  f8 := ⟨Try.f39.name, by decide, Try.func39.trans (congrArg some (by kernel_rfl))⟩
  t0 := Try.underlying0
  a0 := Try.isAgg0
  z0 := Try.sizeOf0
  v0 := Try.zeroValue0
  t3 := Try.underlying3
  a3 := Try.isAgg3
  z3 := Try.sizeOf3
  v3 := Try.zeroValue3
  t4 := Try.underlying4
  a4 := Try.isAgg4
  z4 := Try.sizeOf4
  v4 := Try.zeroValue4
  t22 := Try.underlying31
  a22 := Try.isAgg31
  z22 := Try.sizeOf31
  v22 := Try.zeroValue31
  t25 := Try.underlying68
  a25 := Try.isAgg68
  z25 := Try.sizeOf68
  v25 := Try.zeroValue68 }
def Try.layAnyD_ren : Go.Shelf.Ren := ⟨fun | 8 => 86 | 6 => 91 | n => n, fun | 22 => 23 | 23 => 85 | 25 => 97 | 4 => 4 | 3 => 3 | 0 => 0 | n => n, fun | n => n⟩
theorem Try.layAnyD : Go.Proofs.SlLaysH0.n8 Try.prog Try.layAnyD_ren := {
  mixed := by kernel_rfl
  f6 := ⟨Try.f91.name, by decide, Try.func91.trans (congrArg some (by kernel_rfl))⟩
  f8 := ⟨Try.f86.name, by decide, Try.func86.trans (congrArg some (by kernel_rfl))⟩
  t0 := Try.underlying0
  a0 := Try.isAgg0
  z0 := Try.sizeOf0
  v0 := Try.zeroValue0
  t3 := Try.underlying3
  a3 := Try.isAgg3
  z3 := Try.sizeOf3
  v3 := Try.zeroValue3
  t4 := Try.underlying4
  a4 := Try.isAgg4
  z4 := Try.sizeOf4
  v4 := Try.zeroValue4
  t22 := Try.underlying23
  a22 := Try.isAgg23
  z22 := Try.sizeOf23
  v22 := Try.zeroValue23
  t25 := Try.underlying97
  a25 := Try.isAgg97
  z25 := Try.sizeOf97
  v25 := Try.zeroValue97 }
def Try.layIdxF_ren : Go.Shelf.Ren := ⟨fun | 15 => 25 | 20 => 45 | n => n, fun | 9 => 9 | 23 => 50 | 3 => 3 | 4 => 4 | 0 => 0 | 21 => 21 | n => n, fun | n => n⟩
theorem Try.layIdxF : Go.Proofs.LaysGw.n15 Try.prog Try.layIdxF_ren := {
  mixed := by kernel_rfl
  f15 := Try.func25.trans (congrArg some (by kernel_rfl))
  f20 := Try.func45.trans (congrArg some (by kernel_rfl))
  t0 := Try.underlying0
  a0 := Try.isAgg0
  z0 := Try.sizeOf0
  v0 := Try.zeroValue0
  i0 := by kernel_rfl
  t3 := Try.underlying3
  a3 := Try.isAgg3
  z3 := Try.sizeOf3
  v3 := Try.zeroValue3
  i3 := by kernel_rfl
  t4 := Try.underlying4
  a4 := Try.isAgg4
  z4 := Try.sizeOf4
  v4 := Try.zeroValue4
  i4 := by kernel_rfl
  t9 := Try.underlying9
  a9 := Try.isAgg9
  z9 := Try.sizeOf9
  v9 := Try.zeroValue9
  i9 := by kernel_rfl
  t21 := Try.underlying21
  a21 := Try.isAgg21
  z21 := Try.sizeOf21
  v21 := Try.zeroValue21
  i21 := by kernel_rfl
  t23 := Try.underlying50
  a23 := Try.isAgg50
  z23 := Try.sizeOf50
  v23 := Try.zeroValue50
  i23 := by kernel_rfl }
end Go.Proofs
