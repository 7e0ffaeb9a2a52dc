/-
  The shelf of contracts laid at this program, in plain declarations: the tables of numbers and the facts on the program. Helper text; no conditions beyond those typed.
-/
import Derived.Shelf.Strings.Trim
import Derived.Shelf.Small.Strs
import Derived.Shelf.Small.Wraps
import Derived.Shelf.LaysM
import Derived.Shelf.Strings.Search1
import Derived.Shelf.Strings.Search2
import Derived.Shelf.Strings.Search3
import Derived.Shelf.Strings.Shaped
import Derived.Shelf.GgClosure.StringsIndexFunc
import Derived.Shelf.GgClosure.StringsIndexFuncTop
import Derived.Shelf.GgClosure.StringsRunes
import Derived.Shelf.Strings.Prefix
import Derived.Shelf.Strings.Runes
import Derived.Shelf.Slices.Clone
import Derived.Shelf.SlicesE.IndexFunc
import Derived.Ground.NamesProg
import Derived.Ground.GgwProg
import Derived.Ground.Names2Prog
import Derived.Ground.SlgnProg
import Derived.Ground.SlgfProg
import Derived.Test.YtnplmembdfklcaaGreatDoorChecked
namespace Go.Proofs
open Go.Shelf
def Tryz.layTrim_ren : Go.Shelf.Ren := ⟨fun | 160 => 70 | 232 => 101 | 231 => 100 | 227 => 102 | 234 => 104 | 233 => 103 | 236 => 106 | 235 => 105 | 228 => 128 | 271 => 129 | 151 => 66 | 197 => 117 | 120 => 139 | 152 => 89 | 260 => 135 | 137 => 118 | 119 => 119 | 224 => 120 | 225 => 121 | 217 => 126 | 266 => 137 | n => n, fun | 9 => 9 | 4 => 4 | 3 => 3 | 5 => 5 | 117 => 135 | 116 => 134 | 0 => 0 | 124 => 138 | 21 => 21 | 105 => 151 | 46 => 99 | 119 => 171 | 139 => 174 | 138 => 173 | n => n, fun | 3 => 2 | 4 => 3 | n => n⟩
theorem Tryz.layTrim : Go.Proofs.Lays.n160 Tryz.prog Tryz.layTrim_ren := {
  mixed := by kernel_rfl
  f119 := Tryz.func119.trans (congrArg some (by kernel_rfl))
  f120 := Tryz.func139.trans (congrArg some (by kernel_rfl))
  f137 := Tryz.func118.trans (congrArg some (by kernel_rfl))
  f151 := Tryz.func66.trans (congrArg some (by kernel_rfl))
  f152 := Tryz.func89.trans (congrArg some (by kernel_rfl))
  f160 := Tryz.func70.trans (congrArg some (by kernel_rfl))
  f197 := Tryz.func117.trans (congrArg some (by kernel_rfl))
  f217 := Tryz.func126.trans (congrArg some (by kernel_rfl))
  f224 := Tryz.func120.trans (congrArg some (by kernel_rfl))
  f225 := Tryz.func121.trans (congrArg some (by kernel_rfl))
  f227 := Tryz.func102.trans (congrArg some (by kernel_rfl))
  f228 := Tryz.func128.trans (congrArg some (by kernel_rfl))
  f231 := Tryz.func100.trans (congrArg some (by kernel_rfl))
  f232 := Tryz.func101.trans (congrArg some (by kernel_rfl))
  f233 := Tryz.func103.trans (congrArg some (by kernel_rfl))
  f234 := Tryz.func104.trans (congrArg some (by kernel_rfl))
  f235 := Tryz.func105.trans (congrArg some (by kernel_rfl))
  f236 := Tryz.func106.trans (congrArg some (by kernel_rfl))
  f260 := Tryz.func135.trans (congrArg some (by kernel_rfl))
  f266 := Tryz.func137.trans (congrArg some (by kernel_rfl))
  f271 := Tryz.func129.trans (congrArg some (by kernel_rfl))
  t0 := Tryz.underlying0
  a0 := Tryz.isAgg0
  z0 := Tryz.sizeOf0
  v0 := Tryz.zeroValue0
  t3 := Tryz.underlying3
  a3 := Tryz.isAgg3
  z3 := Tryz.sizeOf3
  v3 := Tryz.zeroValue3
  t4 := Tryz.underlying4
  a4 := Tryz.isAgg4
  z4 := Tryz.sizeOf4
  v4 := Tryz.zeroValue4
  t5 := Tryz.underlying5
  a5 := Tryz.isAgg5
  z5 := Tryz.sizeOf5
  v5 := Tryz.zeroValue5
  t9 := Tryz.underlying9
  a9 := Tryz.isAgg9
  z9 := Tryz.sizeOf9
  v9 := Tryz.zeroValue9
  t21 := Tryz.underlying21
  a21 := Tryz.isAgg21
  z21 := Tryz.sizeOf21
  v21 := Tryz.zeroValue21
  t46 := Tryz.underlying99
  a46 := Tryz.isAgg99
  z46 := Tryz.sizeOf99
  v46 := Tryz.zeroValue99
  t105 := Tryz.underlying151
  a105 := Tryz.isAgg151
  z105 := Tryz.sizeOf151
  v105 := Tryz.zeroValue151
  t116 := Tryz.underlying134
  a116 := Tryz.isAgg134
  z116 := Tryz.sizeOf134
  t117 := Tryz.underlying135
  a117 := Tryz.isAgg135
  z117 := Tryz.sizeOf135
  v117 := Tryz.zeroValue135
  t119 := Tryz.underlying171
  a119 := Tryz.isAgg171
  z119 := Tryz.sizeOf171
  t124 := Tryz.underlying138
  a124 := Tryz.isAgg138
  z124 := Tryz.sizeOf138
  v124 := Tryz.zeroValue138
  t138 := Tryz.underlying173
  a138 := Tryz.isAgg173
  z138 := Tryz.sizeOf173
  v138 := Tryz.zeroValue173
  t139 := Tryz.underlying174
  a139 := Tryz.isAgg174
  z139 := Tryz.sizeOf174
  v139 := Tryz.zeroValue174
  g3 := by kernel_rfl
  g4 := by kernel_rfl }
def Tryz.layCut_ren : Go.Shelf.Ren := ⟨fun | 103 => 61 | 210 => 86 | 206 => 68 | n => n, fun | 9 => 9 | 4 => 4 | 24 => 100 | 3 => 3 | n => n, fun | n => n⟩
theorem Tryz.layCut : Go.Proofs.Lays.n103 Tryz.prog Tryz.layCut_ren := {
  mixed := by kernel_rfl
  f103 := Tryz.func61.trans (congrArg some (by kernel_rfl))
  f206 := Tryz.func68.trans (congrArg some (by kernel_rfl))
  f210 := Tryz.func86.trans (congrArg some (by kernel_rfl))
  t3 := Tryz.underlying3
  a3 := Tryz.isAgg3
  z3 := Tryz.sizeOf3
  v3 := Tryz.zeroValue3
  t4 := Tryz.underlying4
  a4 := Tryz.isAgg4
  z4 := Tryz.sizeOf4
  v4 := Tryz.zeroValue4
  t9 := Tryz.underlying9
  a9 := Tryz.isAgg9
  z9 := Tryz.sizeOf9
  v9 := Tryz.zeroValue9
  t24 := Tryz.underlying100
  a24 := Tryz.isAgg100
  z24 := Tryz.sizeOf100
  v24 := Tryz.zeroValue100 }
def Tryz.layIndex_ren : Go.Shelf.Ren := ⟨fun | 143 => 69 | 219 => 99 | 217 => 126 | 225 => 121 | 224 => 120 | 267 => 127 | 266 => 137 | 314 => 138 | n => n, fun | 9 => 9 | 3 => 3 | 4 => 4 | 5 => 5 | 46 => 99 | 146 => 166 | 51 => 121 | n => n, fun | 1 => 0 | n => n⟩
theorem Tryz.layIndex : Go.Proofs.Lays.n143 Tryz.prog Tryz.layIndex_ren := {
  mixed := by kernel_rfl
  f143 := Tryz.func69.trans (congrArg some (by kernel_rfl))
  f217 := Tryz.func126.trans (congrArg some (by kernel_rfl))
  f219 := Tryz.func99.trans (congrArg some (by kernel_rfl))
  f224 := Tryz.func120.trans (congrArg some (by kernel_rfl))
  f225 := Tryz.func121.trans (congrArg some (by kernel_rfl))
  f266 := Tryz.func137.trans (congrArg some (by kernel_rfl))
  f267 := Tryz.func127.trans (congrArg some (by kernel_rfl))
  f314 := Tryz.func138.trans (congrArg some (by kernel_rfl))
  t3 := Tryz.underlying3
  a3 := Tryz.isAgg3
  z3 := Tryz.sizeOf3
  v3 := Tryz.zeroValue3
  t4 := Tryz.underlying4
  a4 := Tryz.isAgg4
  z4 := Tryz.sizeOf4
  v4 := Tryz.zeroValue4
  t5 := Tryz.underlying5
  a5 := Tryz.isAgg5
  z5 := Tryz.sizeOf5
  v5 := Tryz.zeroValue5
  t9 := Tryz.underlying9
  a9 := Tryz.isAgg9
  z9 := Tryz.sizeOf9
  v9 := Tryz.zeroValue9
  t46 := Tryz.underlying99
  a46 := Tryz.isAgg99
  z46 := Tryz.sizeOf99
  v46 := Tryz.zeroValue99
  t51 := Tryz.underlying121
  a51 := Tryz.isAgg121
  z51 := Tryz.sizeOf121
  v51 := Tryz.zeroValue121
  t146 := Tryz.underlying166
  a146 := Tryz.isAgg166
  z146 := Tryz.sizeOf166
  v146 := Tryz.zeroValue166
  g1 := by kernel_rfl }
def Tryz.layContains_ren : Go.Shelf.Ren := ⟨fun | 144 => 43 | 143 => 69 | 219 => 99 | 217 => 126 | 225 => 121 | 224 => 120 | 267 => 127 | 266 => 137 | 314 => 138 | n => n, fun | 9 => 9 | 4 => 4 | 3 => 3 | 5 => 5 | 46 => 99 | 146 => 166 | 51 => 121 | n => n, fun | 1 => 0 | n => n⟩
theorem Tryz.layContains : Go.Proofs.LaysM.n144 Tryz.prog Tryz.layContains_ren := {
  mixed := by kernel_rfl
  f143 := Tryz.func69.trans (congrArg some (by kernel_rfl))
  f144 := Tryz.func43.trans (congrArg some (by kernel_rfl))
  f217 := Tryz.func126.trans (congrArg some (by kernel_rfl))
  f219 := Tryz.func99.trans (congrArg some (by kernel_rfl))
  f224 := Tryz.func120.trans (congrArg some (by kernel_rfl))
  f225 := Tryz.func121.trans (congrArg some (by kernel_rfl))
  f266 := Tryz.func137.trans (congrArg some (by kernel_rfl))
  f267 := Tryz.func127.trans (congrArg some (by kernel_rfl))
  f314 := Tryz.func138.trans (congrArg some (by kernel_rfl))
  t3 := Tryz.underlying3
  a3 := Tryz.isAgg3
  z3 := Tryz.sizeOf3
  v3 := Tryz.zeroValue3
  t4 := Tryz.underlying4
  a4 := Tryz.isAgg4
  z4 := Tryz.sizeOf4
  v4 := Tryz.zeroValue4
  t5 := Tryz.underlying5
  a5 := Tryz.isAgg5
  z5 := Tryz.sizeOf5
  v5 := Tryz.zeroValue5
  t9 := Tryz.underlying9
  a9 := Tryz.isAgg9
  z9 := Tryz.sizeOf9
  v9 := Tryz.zeroValue9
  t46 := Tryz.underlying99
  a46 := Tryz.isAgg99
  z46 := Tryz.sizeOf99
  v46 := Tryz.zeroValue99
  t51 := Tryz.underlying121
  a51 := Tryz.isAgg121
  z51 := Tryz.sizeOf121
  v51 := Tryz.zeroValue121
  t146 := Tryz.underlying166
  a146 := Tryz.isAgg166
  z146 := Tryz.sizeOf166
  v146 := Tryz.zeroValue166
  g1 := by kernel_rfl
  i3 := by kernel_rfl
  i4 := by kernel_rfl
  i5 := by kernel_rfl
  i9 := by kernel_rfl
  i46 := by kernel_rfl
  i51 := by kernel_rfl
  i146 := by kernel_rfl
  m1 := by kernel_rfl
  s1_3 := fun w h => Go.Proofs.cell_of_shapedOpen_int (zero := #[.int .i64 0]) (t := 3) h (of_decide_eq_true (by kernel_rfl)) (by kernel_rfl) rfl (by kernel_rfl) (by kernel_rfl) Tryz.underlying3 }
def Tryz.layIdxF_ren : Go.Shelf.Ren := ⟨fun | 15 => 63 | 20 => 87 | n => n, fun | 9 => 9 | 23 => 102 | 3 => 3 | 4 => 4 | 0 => 0 | 21 => 21 | n => n, fun | n => n⟩
theorem Tryz.layIdxF : Go.Proofs.LaysGw.n15 Tryz.prog Tryz.layIdxF_ren := {
  mixed := by kernel_rfl
  f15 := Tryz.func63.trans (congrArg some (by kernel_rfl))
  f20 := Tryz.func87.trans (congrArg some (by kernel_rfl))
  t0 := Tryz.underlying0
  a0 := Tryz.isAgg0
  z0 := Tryz.sizeOf0
  v0 := Tryz.zeroValue0
  i0 := by kernel_rfl
  t3 := Tryz.underlying3
  a3 := Tryz.isAgg3
  z3 := Tryz.sizeOf3
  v3 := Tryz.zeroValue3
  i3 := by kernel_rfl
  t4 := Tryz.underlying4
  a4 := Tryz.isAgg4
  z4 := Tryz.sizeOf4
  v4 := Tryz.zeroValue4
  i4 := by kernel_rfl
  t9 := Tryz.underlying9
  a9 := Tryz.isAgg9
  z9 := Tryz.sizeOf9
  v9 := Tryz.zeroValue9
  i9 := by kernel_rfl
  t21 := Tryz.underlying21
  a21 := Tryz.isAgg21
  z21 := Tryz.sizeOf21
  v21 := Tryz.zeroValue21
  i21 := by kernel_rfl
  t23 := Tryz.underlying102
  a23 := Tryz.isAgg102
  z23 := Tryz.sizeOf102
  v23 := Tryz.zeroValue102
  i23 := by kernel_rfl }
def Tryz.layPrefix_ren : Go.Shelf.Ren := ⟨fun | 99 => 42 | 206 => 68 | n => n, fun | 9 => 9 | 4 => 4 | 3 => 3 | n => n, fun | n => n⟩
theorem Tryz.layPrefix : Go.Proofs.Lays.n99 Tryz.prog Tryz.layPrefix_ren := {
  mixed := by kernel_rfl
  f99 := Tryz.func42.trans (congrArg some (by kernel_rfl))
  f206 := Tryz.func68.trans (congrArg some (by kernel_rfl))
  t3 := Tryz.underlying3
  a3 := Tryz.isAgg3
  z3 := Tryz.sizeOf3
  v3 := Tryz.zeroValue3
  t4 := Tryz.underlying4
  a4 := Tryz.isAgg4
  z4 := Tryz.sizeOf4
  v4 := Tryz.zeroValue4
  t9 := Tryz.underlying9
  a9 := Tryz.isAgg9
  z9 := Tryz.sizeOf9
  v9 := Tryz.zeroValue9 }
def Tryz.layHasRune_ren : Go.Shelf.Ren := ⟨fun | 151 => 66 | 152 => 89 | 137 => 118 | 119 => 119 | 224 => 120 | 225 => 121 | 217 => 126 | 266 => 137 | n => n, fun | 9 => 9 | 21 => 21 | 4 => 4 | 3 => 3 | 5 => 5 | 0 => 0 | 46 => 99 | n => n, fun | n => n⟩
theorem Tryz.layHasRune : Go.Proofs.Lays.n151 Tryz.prog Tryz.layHasRune_ren := {
  mixed := by kernel_rfl
  f119 := Tryz.func119.trans (congrArg some (by kernel_rfl))
  f137 := Tryz.func118.trans (congrArg some (by kernel_rfl))
  f151 := Tryz.func66.trans (congrArg some (by kernel_rfl))
  f152 := Tryz.func89.trans (congrArg some (by kernel_rfl))
  f217 := Tryz.func126.trans (congrArg some (by kernel_rfl))
  f224 := Tryz.func120.trans (congrArg some (by kernel_rfl))
  f225 := Tryz.func121.trans (congrArg some (by kernel_rfl))
  f266 := Tryz.func137.trans (congrArg some (by kernel_rfl))
  t0 := Tryz.underlying0
  a0 := Tryz.isAgg0
  z0 := Tryz.sizeOf0
  v0 := Tryz.zeroValue0
  t3 := Tryz.underlying3
  a3 := Tryz.isAgg3
  z3 := Tryz.sizeOf3
  v3 := Tryz.zeroValue3
  t4 := Tryz.underlying4
  a4 := Tryz.isAgg4
  z4 := Tryz.sizeOf4
  v4 := Tryz.zeroValue4
  t5 := Tryz.underlying5
  a5 := Tryz.isAgg5
  z5 := Tryz.sizeOf5
  v5 := Tryz.zeroValue5
  t9 := Tryz.underlying9
  a9 := Tryz.isAgg9
  z9 := Tryz.sizeOf9
  v9 := Tryz.zeroValue9
  t21 := Tryz.underlying21
  a21 := Tryz.isAgg21
  z21 := Tryz.sizeOf21
  v21 := Tryz.zeroValue21
  t46 := Tryz.underlying99
  a46 := Tryz.isAgg99
  z46 := Tryz.sizeOf99
  v46 := Tryz.zeroValue99 }
def Tryz.layCloneS_ren : Go.Shelf.Ren := ⟨fun | 16 => 30 | n => n, fun | 24 => 29 | 9 => 9 | 4 => 4 | n => n, fun | n => n⟩
theorem Tryz.layCloneS : Go.Proofs.Lays2.n16 Tryz.prog Tryz.layCloneS_ren := {
  mixed := by kernel_rfl
  f16 := Tryz.func30.trans (congrArg some (by kernel_rfl))
  t4 := Tryz.underlying4
  a4 := Tryz.isAgg4
  z4 := Tryz.sizeOf4
  v4 := Tryz.zeroValue4
  t9 := Tryz.underlying9
  a9 := Tryz.isAgg9
  z9 := Tryz.sizeOf9
  v9 := Tryz.zeroValue9
  t24 := Tryz.underlying29
  a24 := Tryz.isAgg29
  z24 := Tryz.sizeOf29
  v24 := Tryz.zeroValue29
  i9 := by kernel_rfl }
def Tryz.layAnyS_ren : Go.Shelf.Ren := ⟨fun | 8 => 33 | 6 => 58 | n => n, fun | 22 => 29 | 23 => 9 | 25 => 75 | 4 => 4 | 3 => 3 | 0 => 0 | n => n, fun | n => n⟩
theorem Tryz.layAnyS : Go.Proofs.SlLaysH.n8 Tryz.prog Tryz.layAnyS_ren := {
  mixed := by kernel_rfl
  f6 := ⟨Tryz.f58.name, by decide, Tryz.func58.trans (congrArg some (by kernel_rfl))⟩
  f8 := ⟨Tryz.f33.name, by decide, Tryz.func33.trans (congrArg some (by kernel_rfl))⟩
  t0 := Tryz.underlying0
  a0 := Tryz.isAgg0
  z0 := Tryz.sizeOf0
  v0 := Tryz.zeroValue0
  t3 := Tryz.underlying3
  a3 := Tryz.isAgg3
  z3 := Tryz.sizeOf3
  v3 := Tryz.zeroValue3
  t4 := Tryz.underlying4
  a4 := Tryz.isAgg4
  z4 := Tryz.sizeOf4
  v4 := Tryz.zeroValue4
  t22 := Tryz.underlying29
  a22 := Tryz.isAgg29
  z22 := Tryz.sizeOf29
  v22 := Tryz.zeroValue29
  a23 := Tryz.isAgg9
  z23 := Tryz.sizeOf9
  t25 := Tryz.underlying75
  a25 := Tryz.isAgg75
  z25 := Tryz.sizeOf75
  v25 := Tryz.zeroValue75 }
end Go.Proofs
