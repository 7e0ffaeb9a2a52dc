/-
  The shelf of contracts laid at this program, in plain declarations: the tables of numbers and the facts on the program. Helper text; no conditions beyond those typed.
-/
import Derived.Shelf.Strings.Trim
import Derived.Shelf.Small.Strs
import Derived.Shelf.Small.Wraps
import Derived.Shelf.LaysM
import Derived.Shelf.Strings.Search1
import Derived.Shelf.Strings.Search2
import Derived.Shelf.Strings.Search3
import Derived.Shelf.Strings.Shaped
import Derived.Shelf.GgClosure.StringsIndexFunc
import Derived.Shelf.GgClosure.StringsIndexFuncTop
import Derived.Shelf.GgClosure.StringsRunes
import Derived.Shelf.Strings.Prefix
import Derived.Shelf.Strings.Runes
import Derived.Shelf.Slices.Clone
import Derived.Shelf.SlicesE.IndexFunc
import Derived.Ground.NamesProg
import Derived.Ground.GgwProg
import Derived.Ground.Names2Prog
import Derived.Ground.SlgnProg
import Derived.Ground.SlgfProg
import Derived.Test.YtnplmembdfklcaaDoorChecked
namespace Go.Proofs
open Go.Shelf
def Tryd.layTrim_ren : Go.Shelf.Ren := ⟨fun | 160 => 36 | 232 => 49 | 231 => 48 | 227 => 50 | 234 => 52 | 233 => 51 | 236 => 54 | 235 => 53 | 228 => 75 | 271 => 77 | 151 => 42 | 197 => 76 | 120 => 91 | 152 => 58 | 260 => 90 | 137 => 79 | 119 => 80 | 224 => 73 | 225 => 72 | 217 => 71 | 266 => 88 | n => n, fun | 9 => 9 | 4 => 4 | 3 => 3 | 5 => 5 | 117 => 88 | 116 => 87 | 0 => 0 | 124 => 91 | 21 => 21 | 105 => 110 | 46 => 84 | 119 => 130 | 139 => 133 | 138 => 132 | n => n, fun | 3 => 1 | 4 => 2 | n => n⟩
theorem Tryd.layTrim : Go.Proofs.Lays.n160 Tryd.prog Tryd.layTrim_ren := {
  mixed := by kernel_rfl
  f119 := Tryd.func80.trans (congrArg some (by kernel_rfl))
  f120 := Tryd.func91.trans (congrArg some (by kernel_rfl))
  f137 := Tryd.func79.trans (congrArg some (by kernel_rfl))
  f151 := Tryd.func42.trans (congrArg some (by kernel_rfl))
  f152 := Tryd.func58.trans (congrArg some (by kernel_rfl))
  f160 := Tryd.func36.trans (congrArg some (by kernel_rfl))
  f197 := Tryd.func76.trans (congrArg some (by kernel_rfl))
  f217 := Tryd.func71.trans (congrArg some (by kernel_rfl))
  f224 := Tryd.func73.trans (congrArg some (by kernel_rfl))
  f225 := Tryd.func72.trans (congrArg some (by kernel_rfl))
  f227 := Tryd.func50.trans (congrArg some (by kernel_rfl))
  f228 := Tryd.func75.trans (congrArg some (by kernel_rfl))
  f231 := Tryd.func48.trans (congrArg some (by kernel_rfl))
  f232 := Tryd.func49.trans (congrArg some (by kernel_rfl))
  f233 := Tryd.func51.trans (congrArg some (by kernel_rfl))
  f234 := Tryd.func52.trans (congrArg some (by kernel_rfl))
  f235 := Tryd.func53.trans (congrArg some (by kernel_rfl))
  f236 := Tryd.func54.trans (congrArg some (by kernel_rfl))
  f260 := Tryd.func90.trans (congrArg some (by kernel_rfl))
  f266 := Tryd.func88.trans (congrArg some (by kernel_rfl))
  f271 := Tryd.func77.trans (congrArg some (by kernel_rfl))
  t0 := Tryd.underlying0
  a0 := Tryd.isAgg0
  z0 := Tryd.sizeOf0
  v0 := Tryd.zeroValue0
  t3 := Tryd.underlying3
  a3 := Tryd.isAgg3
  z3 := Tryd.sizeOf3
  v3 := Tryd.zeroValue3
  t4 := Tryd.underlying4
  a4 := Tryd.isAgg4
  z4 := Tryd.sizeOf4
  v4 := Tryd.zeroValue4
  t5 := Tryd.underlying5
  a5 := Tryd.isAgg5
  z5 := Tryd.sizeOf5
  v5 := Tryd.zeroValue5
  t9 := Tryd.underlying9
  a9 := Tryd.isAgg9
  z9 := Tryd.sizeOf9
  v9 := Tryd.zeroValue9
  t21 := Tryd.underlying21
  a21 := Tryd.isAgg21
  z21 := Tryd.sizeOf21
  v21 := Tryd.zeroValue21
  t46 := Tryd.underlying84
  a46 := Tryd.isAgg84
  z46 := Tryd.sizeOf84
  v46 := Tryd.zeroValue84
  t105 := Tryd.underlying110
  a105 := Tryd.isAgg110
  z105 := Tryd.sizeOf110
  v105 := Tryd.zeroValue110
  t116 := Tryd.underlying87
  a116 := Tryd.isAgg87
  z116 := Tryd.sizeOf87
  t117 := Tryd.underlying88
  a117 := Tryd.isAgg88
  z117 := Tryd.sizeOf88
  v117 := Tryd.zeroValue88
  t119 := Tryd.underlying130
  a119 := Tryd.isAgg130
  z119 := Tryd.sizeOf130
  t124 := Tryd.underlying91
  a124 := Tryd.isAgg91
  z124 := Tryd.sizeOf91
  v124 := Tryd.zeroValue91
  t138 := Tryd.underlying132
  a138 := Tryd.isAgg132
  z138 := Tryd.sizeOf132
  v138 := Tryd.zeroValue132
  t139 := Tryd.underlying133
  a139 := Tryd.isAgg133
  z139 := Tryd.sizeOf133
  v139 := Tryd.zeroValue133
  g3 := by kernel_rfl
  g4 := by kernel_rfl }
def Tryd.layCut_ren : Go.Shelf.Ren := ⟨fun | 103 => 37 | 210 => 55 | 206 => 34 | n => n, fun | 9 => 9 | 4 => 4 | 24 => 72 | 3 => 3 | n => n, fun | n => n⟩
theorem Tryd.layCut : Go.Proofs.Lays.n103 Tryd.prog Tryd.layCut_ren := {
  mixed := by kernel_rfl
  f103 := Tryd.func37.trans (congrArg some (by kernel_rfl))
  f206 := Tryd.func34.trans (congrArg some (by kernel_rfl))
  f210 := Tryd.func55.trans (congrArg some (by kernel_rfl))
  t3 := Tryd.underlying3
  a3 := Tryd.isAgg3
  z3 := Tryd.sizeOf3
  v3 := Tryd.zeroValue3
  t4 := Tryd.underlying4
  a4 := Tryd.isAgg4
  z4 := Tryd.sizeOf4
  v4 := Tryd.zeroValue4
  t9 := Tryd.underlying9
  a9 := Tryd.isAgg9
  z9 := Tryd.sizeOf9
  v9 := Tryd.zeroValue9
  t24 := Tryd.underlying72
  a24 := Tryd.isAgg72
  z24 := Tryd.sizeOf72
  v24 := Tryd.zeroValue72 }
def Tryd.layIndex_ren : Go.Shelf.Ren := ⟨fun | 143 => 35 | 219 => 47 | 217 => 71 | 225 => 72 | 224 => 73 | 267 => 74 | 266 => 88 | 314 => 89 | n => n, fun | 9 => 9 | 3 => 3 | 4 => 4 | 5 => 5 | 46 => 84 | 146 => 120 | 51 => 104 | n => n, fun | 1 => 0 | n => n⟩
theorem Tryd.layIndex : Go.Proofs.Lays.n143 Tryd.prog Tryd.layIndex_ren := {
  mixed := by kernel_rfl
  f143 := Tryd.func35.trans (congrArg some (by kernel_rfl))
  f217 := Tryd.func71.trans (congrArg some (by kernel_rfl))
  f219 := Tryd.func47.trans (congrArg some (by kernel_rfl))
  f224 := Tryd.func73.trans (congrArg some (by kernel_rfl))
  f225 := Tryd.func72.trans (congrArg some (by kernel_rfl))
  f266 := Tryd.func88.trans (congrArg some (by kernel_rfl))
  f267 := Tryd.func74.trans (congrArg some (by kernel_rfl))
  f314 := Tryd.func89.trans (congrArg some (by kernel_rfl))
  t3 := Tryd.underlying3
  a3 := Tryd.isAgg3
  z3 := Tryd.sizeOf3
  v3 := Tryd.zeroValue3
  t4 := Tryd.underlying4
  a4 := Tryd.isAgg4
  z4 := Tryd.sizeOf4
  v4 := Tryd.zeroValue4
  t5 := Tryd.underlying5
  a5 := Tryd.isAgg5
  z5 := Tryd.sizeOf5
  v5 := Tryd.zeroValue5
  t9 := Tryd.underlying9
  a9 := Tryd.isAgg9
  z9 := Tryd.sizeOf9
  v9 := Tryd.zeroValue9
  t46 := Tryd.underlying84
  a46 := Tryd.isAgg84
  z46 := Tryd.sizeOf84
  v46 := Tryd.zeroValue84
  t51 := Tryd.underlying104
  a51 := Tryd.isAgg104
  z51 := Tryd.sizeOf104
  v51 := Tryd.zeroValue104
  t146 := Tryd.underlying120
  a146 := Tryd.isAgg120
  z146 := Tryd.sizeOf120
  v146 := Tryd.zeroValue120
  g1 := by kernel_rfl }
def Tryd.layContains_ren : Go.Shelf.Ren := ⟨fun | 144 => 20 | 143 => 35 | 219 => 47 | 217 => 71 | 225 => 72 | 224 => 73 | 267 => 74 | 266 => 88 | 314 => 89 | n => n, fun | 9 => 9 | 4 => 4 | 3 => 3 | 5 => 5 | 46 => 84 | 146 => 120 | 51 => 104 | n => n, fun | 1 => 0 | n => n⟩
theorem Tryd.layContains : Go.Proofs.LaysM.n144 Tryd.prog Tryd.layContains_ren := {
  mixed := by kernel_rfl
  f143 := Tryd.func35.trans (congrArg some (by kernel_rfl))
  f144 := Tryd.func20.trans (congrArg some (by kernel_rfl))
  f217 := Tryd.func71.trans (congrArg some (by kernel_rfl))
  f219 := Tryd.func47.trans (congrArg some (by kernel_rfl))
  f224 := Tryd.func73.trans (congrArg some (by kernel_rfl))
  f225 := Tryd.func72.trans (congrArg some (by kernel_rfl))
  f266 := Tryd.func88.trans (congrArg some (by kernel_rfl))
  f267 := Tryd.func74.trans (congrArg some (by kernel_rfl))
  f314 := Tryd.func89.trans (congrArg some (by kernel_rfl))
  t3 := Tryd.underlying3
  a3 := Tryd.isAgg3
  z3 := Tryd.sizeOf3
  v3 := Tryd.zeroValue3
  t4 := Tryd.underlying4
  a4 := Tryd.isAgg4
  z4 := Tryd.sizeOf4
  v4 := Tryd.zeroValue4
  t5 := Tryd.underlying5
  a5 := Tryd.isAgg5
  z5 := Tryd.sizeOf5
  v5 := Tryd.zeroValue5
  t9 := Tryd.underlying9
  a9 := Tryd.isAgg9
  z9 := Tryd.sizeOf9
  v9 := Tryd.zeroValue9
  t46 := Tryd.underlying84
  a46 := Tryd.isAgg84
  z46 := Tryd.sizeOf84
  v46 := Tryd.zeroValue84
  t51 := Tryd.underlying104
  a51 := Tryd.isAgg104
  z51 := Tryd.sizeOf104
  v51 := Tryd.zeroValue104
  t146 := Tryd.underlying120
  a146 := Tryd.isAgg120
  z146 := Tryd.sizeOf120
  v146 := Tryd.zeroValue120
  g1 := by kernel_rfl
  i3 := by kernel_rfl
  i4 := by kernel_rfl
  i5 := by kernel_rfl
  i9 := by kernel_rfl
  i46 := by kernel_rfl
  i51 := by kernel_rfl
  i146 := by kernel_rfl
  m1 := by kernel_rfl
  s1_3 := fun w h => Go.Proofs.cell_of_shapedOpen_int (zero := #[.int .i64 0]) (t := 3) h (of_decide_eq_true (by kernel_rfl)) (by kernel_rfl) rfl (by kernel_rfl) (by kernel_rfl) Tryd.underlying3 }
def Tryd.layIdxF_ren : Go.Shelf.Ren := ⟨fun | 15 => 39 | 20 => 56 | n => n, fun | 9 => 9 | 23 => 74 | 3 => 3 | 4 => 4 | 0 => 0 | 21 => 21 | n => n, fun | n => n⟩
theorem Tryd.layIdxF : Go.Proofs.LaysGw.n15 Tryd.prog Tryd.layIdxF_ren := {
  mixed := by kernel_rfl
  f15 := Tryd.func39.trans (congrArg some (by kernel_rfl))
  f20 := Tryd.func56.trans (congrArg some (by kernel_rfl))
  t0 := Tryd.underlying0
  a0 := Tryd.isAgg0
  z0 := Tryd.sizeOf0
  v0 := Tryd.zeroValue0
  i0 := by kernel_rfl
  t3 := Tryd.underlying3
  a3 := Tryd.isAgg3
  z3 := Tryd.sizeOf3
  v3 := Tryd.zeroValue3
  i3 := by kernel_rfl
  t4 := Tryd.underlying4
  a4 := Tryd.isAgg4
  z4 := Tryd.sizeOf4
  v4 := Tryd.zeroValue4
  i4 := by kernel_rfl
  t9 := Tryd.underlying9
  a9 := Tryd.isAgg9
  z9 := Tryd.sizeOf9
  v9 := Tryd.zeroValue9
  i9 := by kernel_rfl
  t21 := Tryd.underlying21
  a21 := Tryd.isAgg21
  z21 := Tryd.sizeOf21
  v21 := Tryd.zeroValue21
  i21 := by kernel_rfl
  t23 := Tryd.underlying74
  a23 := Tryd.isAgg74
  z23 := Tryd.sizeOf74
  v23 := Tryd.zeroValue74
  i23 := by kernel_rfl }
def Tryd.layPrefix_ren : Go.Shelf.Ren := ⟨fun | 99 => 19 | 206 => 34 | n => n, fun | 9 => 9 | 4 => 4 | 3 => 3 | n => n, fun | n => n⟩
theorem Tryd.layPrefix : Go.Proofs.Lays.n99 Tryd.prog Tryd.layPrefix_ren := {
  mixed := by kernel_rfl
  f99 := Tryd.func19.trans (congrArg some (by kernel_rfl))
  f206 := Tryd.func34.trans (congrArg some (by kernel_rfl))
  t3 := Tryd.underlying3
  a3 := Tryd.isAgg3
  z3 := Tryd.sizeOf3
  v3 := Tryd.zeroValue3
  t4 := Tryd.underlying4
  a4 := Tryd.isAgg4
  z4 := Tryd.sizeOf4
  v4 := Tryd.zeroValue4
  t9 := Tryd.underlying9
  a9 := Tryd.isAgg9
  z9 := Tryd.sizeOf9
  v9 := Tryd.zeroValue9 }
def Tryd.layHasRune_ren : Go.Shelf.Ren := ⟨fun | 151 => 42 | 152 => 58 | 137 => 79 | 119 => 80 | 224 => 73 | 225 => 72 | 217 => 71 | 266 => 88 | n => n, fun | 9 => 9 | 21 => 21 | 4 => 4 | 3 => 3 | 5 => 5 | 0 => 0 | 46 => 84 | n => n, fun | n => n⟩
theorem Tryd.layHasRune : Go.Proofs.Lays.n151 Tryd.prog Tryd.layHasRune_ren := {
  mixed := by kernel_rfl
  f119 := Tryd.func80.trans (congrArg some (by kernel_rfl))
  f137 := Tryd.func79.trans (congrArg some (by kernel_rfl))
  f151 := Tryd.func42.trans (congrArg some (by kernel_rfl))
  f152 := Tryd.func58.trans (congrArg some (by kernel_rfl))
  f217 := Tryd.func71.trans (congrArg some (by kernel_rfl))
  f224 := Tryd.func73.trans (congrArg some (by kernel_rfl))
  f225 := Tryd.func72.trans (congrArg some (by kernel_rfl))
  f266 := Tryd.func88.trans (congrArg some (by kernel_rfl))
  t0 := Tryd.underlying0
  a0 := Tryd.isAgg0
  z0 := Tryd.sizeOf0
  v0 := Tryd.zeroValue0
  t3 := Tryd.underlying3
  a3 := Tryd.isAgg3
  z3 := Tryd.sizeOf3
  v3 := Tryd.zeroValue3
  t4 := Tryd.underlying4
  a4 := Tryd.isAgg4
  z4 := Tryd.sizeOf4
  v4 := Tryd.zeroValue4
  t5 := Tryd.underlying5
  a5 := Tryd.isAgg5
  z5 := Tryd.sizeOf5
  v5 := Tryd.zeroValue5
  t9 := Tryd.underlying9
  a9 := Tryd.isAgg9
  z9 := Tryd.sizeOf9
  v9 := Tryd.zeroValue9
  t21 := Tryd.underlying21
  a21 := Tryd.isAgg21
  z21 := Tryd.sizeOf21
  v21 := Tryd.zeroValue21
  t46 := Tryd.underlying84
  a46 := Tryd.isAgg84
  z46 := Tryd.sizeOf84
  v46 := Tryd.zeroValue84 }
def Tryd.layCloneS_ren : Go.Shelf.Ren := ⟨fun | 16 => 28 | n => n, fun | 24 => 25 | 9 => 9 | 4 => 4 | n => n, fun | n => n⟩
theorem Tryd.layCloneS : Go.Proofs.Lays2.n16 Tryd.prog Tryd.layCloneS_ren := {
  mixed := by kernel_rfl
  f16 := Tryd.func28.trans (congrArg some (by kernel_rfl))
  t4 := Tryd.underlying4
  a4 := Tryd.isAgg4
  z4 := Tryd.sizeOf4
  v4 := Tryd.zeroValue4
  t9 := Tryd.underlying9
  a9 := Tryd.isAgg9
  z9 := Tryd.sizeOf9
  v9 := Tryd.zeroValue9
  t24 := Tryd.underlying25
  a24 := Tryd.isAgg25
  z24 := Tryd.sizeOf25
  v24 := Tryd.zeroValue25
  i9 := by kernel_rfl }
def Tryd.layAnyS_ren : Go.Shelf.Ren := ⟨fun | 8 => 27 | 6 => 43 | n => n, fun | 22 => 25 | 23 => 9 | 25 => 59 | 4 => 4 | 3 => 3 | 0 => 0 | n => n, fun | n => n⟩
theorem Tryd.layAnyS : Go.Proofs.SlLaysH.n8 Tryd.prog Tryd.layAnyS_ren := {
  mixed := by kernel_rfl
  f6 := ⟨Tryd.f43.name, by decide, Tryd.func43.trans (congrArg some (by kernel_rfl))⟩
  f8 := ⟨Tryd.f27.name, by decide, Tryd.func27.trans (congrArg some (by kernel_rfl))⟩
  t0 := Tryd.underlying0
  a0 := Tryd.isAgg0
  z0 := Tryd.sizeOf0
  v0 := Tryd.zeroValue0
  t3 := Tryd.underlying3
  a3 := Tryd.isAgg3
  z3 := Tryd.sizeOf3
  v3 := Tryd.zeroValue3
  t4 := Tryd.underlying4
  a4 := Tryd.isAgg4
  z4 := Tryd.sizeOf4
  v4 := Tryd.zeroValue4
  t22 := Tryd.underlying25
  a22 := Tryd.isAgg25
  z22 := Tryd.sizeOf25
  v22 := Tryd.zeroValue25
  a23 := Tryd.isAgg9
  z23 := Tryd.sizeOf9
  t25 := Tryd.underlying59
  a25 := Tryd.isAgg59
  z25 := Tryd.sizeOf59
  v25 := Tryd.zeroValue59 }
end Go.Proofs
