/-
  The shelf of contracts laid at this program, in plain declarations: the tables of numbers and the facts on the program. Helper text; no conditions beyond those typed.
  A text that is built: what is written to it. Helper text; the conditions are those typed.
  A dependency is printed: a name. Helper text; the conditions are those typed.
  A dependency is printed. Helper text; the conditions are those typed.
  A dependency is printed: Print. Helper text; the conditions are those typed.
-/
import Derived.Shelf.Strings.Builder1
import Derived.Ground.NamesProg
import Derived.Ground.Names2Prog
import Derived.Test.YtjcefgjgjhdbpaaGreatDoorChecked
import Derived.Test.YtjcefgjgjhdbpaaGreatDoorMemX
import Derived.Test.YtjcefgjgjhdbpaaGreatDoorDepMem
import Derived.Laws.Externs
import Derived.Laws.IdiomCopy
import Derived.Test.YtjcefgjgjhdbpaaGreatDoorDepNum
import Derived.Test.YtjcefgjgjhdbpaaGreatDoorChkD
import Derived.Test.YtjcefgjgjhdbpaaGreatDoorOrd
import Derived.Deep.CutBlock
import Derived.Deep.CutRange
namespace Go.Proofs
open Go.Shelf
def Tryz.layBuS_ren : Go.Shelf.Ren := ⟨fun | 169 => 33 | n => n, fun | 70 => 59 | 9 => 9 | 0 => 0 | 72 => 62 | 37 => 60 | 127 => 103 | 3 => 3 | 5 => 5 | n => n, fun | n => n⟩
theorem Tryz.layBuS : Go.Proofs.Lays.n169 Tryz.prog Tryz.layBuS_ren := {
  mixed := by kernel_rfl
  f169 := Tryz.func33.trans (congrArg some (by kernel_rfl))
  t0 := Tryz.underlying0
  a0 := Tryz.isAgg0
  z0 := Tryz.sizeOf0
  v0 := Tryz.zeroValue0
  t3 := Tryz.underlying3
  a3 := Tryz.isAgg3
  z3 := Tryz.sizeOf3
  v3 := Tryz.zeroValue3
  t9 := Tryz.underlying9
  a9 := Tryz.isAgg9
  z9 := Tryz.sizeOf9
  v9 := Tryz.zeroValue9
  t37 := Tryz.underlying60
  a37 := Tryz.isAgg60
  z37 := Tryz.sizeOf60
  v37 := Tryz.zeroValue60
  t70 := Tryz.underlying59
  a70 := Tryz.isAgg59
  z70 := Tryz.sizeOf59
  v70 := Tryz.zeroValue59
  t72 := Tryz.underlying62
  a72 := Tryz.isAgg62
  z72 := Tryz.sizeOf62
  v72 := Tryz.zeroValue62
  t127 := Tryz.underlying103
  a127 := Tryz.isAgg103
  z127 := Tryz.sizeOf103
  v127 := Tryz.zeroValue103 }
end Go.Proofs
namespace Go.Proofs.YtjcefgjgjhdbpaaGreatDoor
set_option linter.unusedVariables false
set_option linter.unusedSimpArgs false
open Go.RowKit Go.Shelf Go.Maps

theorem extraB : Builder.Extra Tryz.prog Tryz.layBuS_ren where
  sizeBuilder := by kernel_rfl
  liesBuilder := by kernel_rfl
  t5 := Tryz.underlying5
  a5 := Tryz.isAgg5
  z5 := Tryz.sizeOf5
  v5 := Tryz.zeroValue5
  infoByte := by kernel_rfl
  cellsByte := by kernel_rfl
  sizeByte := by kernel_rfl
  neB5 := by decide
theorem infoU8 : (Tryz.prog.info? 5).map (fun i => (i.zero, i.size, i.bytes)) = some (some (.int .u8 0), 1, 1) := by kernel_rfl
/-- A row of bytes. -/
def ByteRow (o : Obj) : Prop := ∃ cs fz, o = .cells cs 5 fz
/-- What writing to a builder leaves: all below B, and all but the builder and rows of bytes. -/
structure BMv (B b : Nat) (w w' : World) : Prop where
  os : w'.os = w.os
  tape : w'.tape = w.tape
  output : w'.output = w.output
  size : w.heap.size ≤ w'.heap.size
  block : ∀ x o, w.heap[x]? = some o → x ≠ b → (x < B ∨ ¬ ByteRow o) → w'.heap[x]? = some o
theorem BMv.refl (B b : Nat) (w : World) : BMv B b w w := ⟨rfl, rfl, rfl, Nat.le_refl _, fun _ _ h _ _ => h⟩
theorem BMv.trans {B b : Nat} {w w1 w2 : World} (h : BMv B b w w1) (k : BMv B b w1 w2) : BMv B b w w2 :=
  ⟨k.os.trans h.os, k.tape.trans h.tape, k.output.trans h.output, Nat.le_trans h.size k.size, fun x o hx hb hr => k.block x o (h.block x o hx hb hr) hb hr⟩
theorem BMv.of_below {B b : Nat} {w w' : World} (h : Below w.heap.size w w') : BMv B b w w' :=
  ⟨h.os, h.tape, h.output, h.size, fun x o hx _ _ => (h.block x (lt_of_cells hx)).trans hx⟩
theorem BMv.below {B b : Nat} {w w' : World} (h : BMv B b w w') (hb : B ≤ b) (hB : B ≤ w.heap.size) : Below B w w' :=
  ⟨h.os, h.tape, h.output, h.size, fun x hx => by
    have hlt : x < w.heap.size := Nat.lt_of_lt_of_le hx hB
    rw [Array.getElem?_eq_getElem hlt]
    exact h.block x _ (Array.getElem?_eq_getElem hlt) (by omega) (.inl hx)⟩
theorem BMv.box {B b : Nat} {w w' : World} (h : BMv B b w w') {x : Nat} {cs : List Value} {ty : TypeId} (hx : BoxN w x cs ty) (hb : x ≠ b) (ht : ty ≠ 5) : BoxN w' x cs ty :=
  h.block x _ hx hb (.inr (by rintro ⟨cs', fz, e⟩; injection e with _ e2 _; exact ht e2))
theorem grown_mv {B b n : Nat} {w1 w2 : World} {v : Value} {xs : List Value} (hB : B ≤ b) (hown : w1.ownsRow B 5 1 v n xs) (hg : w1.grownBy w2 v.ownBlock) (o : Nat) (x : Value) : BMv B b w1 (w2.setCell ⟨b, o, none⟩ x) := by
  refine ⟨hg.os, hg.tape, hg.output, by rw [set_size]; exact hg.size, fun y ob hy hb hr => ?_⟩
  rw [set_other _ hb, hg.block y (lt_of_cells hy) (fun e => ?_)]
  · exact hy
  · rcases hown.2 with ⟨e2, _⟩ | ⟨g, cap, cur, e2, hBg, hat, _⟩
    · rw [e2] at e; cases e
    · rw [e2] at e
      obtain rfl : y = g := Option.some.inj e
      rcases hr with hr | hr
      · omega
      · rw [hat] at hy
        exact hr ⟨_, _, (Option.some.inj hy).symm⟩
/-- The builder holds these bytes. -/
def Bld (B b : Nat) (l : List UInt8) (w : World) : Prop := Lib.IsBuilder 62 5 B b (Lib.byteCells l) w
set_option maxHeartbeats 1000000 in
set_option maxRecDepth 100000 in
theorem check_used (b : Nat) (w : World) (h0 : w.cell? ⟨b, 0, none⟩ = some (.pointer (some ⟨b, 0, none⟩))) :
    Calls Tryz.prog 72 #[.pointer (some ⟨b, 0, none⟩)] w fun e w' => e = .returned (.tuple #[]) ∧ w' = w := by
  obtain ⟨j, hj, _⟩ := Option.map_eq_some_iff.1 extraB.sizeBuilder
  replace hj : Tryz.prog.info? 62 = some j := hj
  go_enter Tryz.func72, Tryz.ntmps72
  go_wp2
  rw [Lib.run_neq_ptr_same w _ Tryz.underlying59 hj]
  go_wp2
  go_end0
  exact ⟨rfl, rfl⟩
set_option maxHeartbeats 1000000 in
set_option maxRecDepth 100000 in
theorem check_fresh (b : Nat) (w : World) (h0 : w.cell? ⟨b, 0, none⟩ = some (.pointer none)) (hsh : w.shape? b = some (62, 2)) (hfz : w.frozen? ⟨b, 0, none⟩ = false) :
    Calls Tryz.prog 72 #[.pointer (some ⟨b, 0, none⟩)] w fun e w' => e = .returned (.tuple #[]) ∧ w' = w.setCell ⟨b, 0, none⟩ (.pointer (some ⟨b, 0, none⟩)) := by
  obtain ⟨j, hj, hjs⟩ := Option.map_eq_some_iff.1 extraB.sizeBuilder
  replace hj : Tryz.prog.info? 62 = some j := hj
  go_enter Tryz.func72, Tryz.ntmps72
  go_wp2
  rw [Lib.run_to_unsafe w ⟨b, 0, none⟩ Tryz.underlying59 Tryz.underlying126 hj (by rw [hjs]; decide) hsh (Nat.zero_lt_succ 1)]
  simp only [Result.andThen]
  rw [Oper.upon_value]
  go_wp2
  rw [run_callFunc_extern Tryz.func107 (by kernel_rfl) (by kernel_rfl) (by kernel_rfl) (e := Extern.AbiNoEscape.same) (by kernel_rfl)]
  rw [Lib.run_noEscape]
  simp only [Result.andThen]
  rw [Oper.upon_value]
  go_wp2
  rw [Lib.run_from_unsafe w ⟨b, 0, none⟩ Tryz.underlying126 Tryz.underlying59 hj hsh extraB.liesBuilder]
  simp only [Result.andThen]
  rw [Oper.upon_value]
  go_wp2
  go_end0
  exact ⟨rfl, rfl⟩
theorem check_b (B b : Nat) (bs : List Value) (w : World) (h : Lib.IsBuilder 62 5 B b bs w) :
    Calls Tryz.prog 72 #[.pointer (some ⟨b, 0, none⟩)] w fun e w' => e = .returned (.tuple #[]) ∧ (Lib.BuilderAt 62 5 B b (.pointer (some ⟨b, 0, none⟩)) bs w' ∧ BMv B b w w') := by
  rcases h with h | h
  · refine (check_fresh b w h.cell0 h.shape h.frozen0).mono ?_
    rintro e w' ⟨rfl, rfl⟩
    exact ⟨rfl, h.used _, rfl, rfl, rfl, by rw [set_size]; exact Nat.le_refl _, fun x o hx hb _ => (set_other _ hb).trans hx⟩
  · refine (check_used b w h.cell0).mono ?_
    rintro e w' ⟨rfl, rfl⟩
    exact ⟨rfl, h, BMv.refl B b _⟩
theorem cells_app (l : List UInt8) (s : ByteArray) : Lib.byteCells l ++ Lib.strCells s = Lib.byteCells (l ++ bs s) := by
  have e : Lib.strCells s = Lib.byteCells (bs s) := rfl
  rw [e]
  unfold Lib.byteCells
  rw [List.map_append]
theorem cells_len (l : List UInt8) : (Lib.byteCells l).length = l.length := by
  unfold Lib.byteCells
  simp
set_option maxHeartbeats 2000000 in
set_option maxRecDepth 100000 in
/-- WriteString. -/
theorem wrS_c (B b : Nat) (l : List UInt8) (s : ByteArray) (w : World) (h : Bld B b l w) (hlen : l.length + s.size ≤ 140737488355328) (hBw : B ≤ w.heap.size) :
    Calls Tryz.prog 30 #[.pointer (some ⟨b, 0, none⟩), .string s] w fun e w' => e = .returned (.tuple #[.int .i64 s.size, .nilIface]) ∧ Bld B b (l ++ bs s) w' ∧ BMv B b w w' := by
  obtain ⟨i0, hi, hz0, hz1, hz2⟩ := info_parts infoU8
  have hc := cells_len l
  rw [← hc] at hlen
  have HCA := Lib.hid (cells_app l s)
  have HCK := Lib.hid (check_b B b _ w h)
  generalize Lib.byteCells l = cs at HCK hlen HCA
  clear h hc
  go_enter Tryz.func30, Tryz.ntmps30
  go_wp2_with (go_at_call 72; refine HCK.out.mono ?_)
  rintro e w1 ⟨rfl, h1, hb1⟩
  obtain ⟨hB, v, hbk, hown, hne⟩ := h1
  have c0 : w1.cell? ⟨b, 0, none⟩ = some (.pointer (some ⟨b, 0, none⟩)) := by rw [Lib.cell_of_heap hbk]; rfl
  have c1 : w1.cell? ⟨b, 1, none⟩ = some v := by rw [Lib.cell_of_heap hbk]; rfl
  go_wp2_with (at_builtin; refine Lib.wpList_append_own_string _ rfl _ _ 60 9 rfl B 5 i0 Tryz.underlying60 Tryz.underlying9 hi hz0 hz1 hz2 _ _ _ rfl hown s rfl ?c3 ?c4 ?c5 ?_)
  case c3 => unfold maxLen; omega
  case c4 => omega
  case c5 => have := hb1.size; omega
  intro v' w2 hown' hgrow _
  have hlt : b < w1.heap.size := by
    rcases Nat.lt_or_ge b w1.heap.size with h' | h'
    · exact h'
    · simp [Array.getElem?_eq_none h'] at hbk
  have hb2 : w2.heap[b]? = some (.cells #[.pointer (some ⟨b, 0, none⟩), v] 62 (0, 0)) := by
    rw [hgrow.block b hlt (fun e => hne e.symm)]
    exact hbk
  have d0 : w2.cell? ⟨b, 0, none⟩ = some (.pointer (some ⟨b, 0, none⟩)) := by rw [Lib.cell_of_heap hb2]; rfl
  have d1 : w2.cell? ⟨b, 1, none⟩ = some v := by rw [Lib.cell_of_heap hb2]; rfl
  have f1 : w2.frozen? ⟨b, 1, none⟩ = false := Lib.frozen_of_heap hb2 1
  obtain ⟨ao, n', cap, rfl⟩ : ∃ ao n' cap, v' = .slice ao n' cap := by
    rcases hown'.2 with ⟨hv, _⟩ | ⟨g, cap, cur, hv, _⟩
    · exact ⟨_, _, _, hv⟩
    · exact ⟨_, _, _, hv⟩
  go_wp2
  go_ret2
  refine ⟨rfl, ?_, ?_⟩
  · unfold Bld
    rw [← HCA.out]
    exact .inr (Lib.BuilderAt.put (T := 62) (e := 5) hB hb2 (bs' := cs ++ Lib.strCells s) (by simpa [Lib.strCells_length] using hown') (by decide))
  · exact hb1.trans (grown_mv hB hown hgrow 1 _)
set_option maxHeartbeats 2000000 in
set_option maxRecDepth 100000 in
/-- WriteByte. -/
theorem wrB_c (B b : Nat) (l : List UInt8) (c : UInt8) (w : World) (h : Bld B b l w) (hlen : l.length + 1 ≤ 140737488355328) (hBw : B ≤ w.heap.size) :
    Calls Tryz.prog 111 #[.pointer (some ⟨b, 0, none⟩), .int .u8 (c.toNat : Int)] w fun e w' => e = .returned .nilIface ∧ Bld B b (l ++ [c]) w' ∧ BMv B b w w' := by
  obtain ⟨i0, hi, hz0, hz1, hz2⟩ := info_parts infoU8
  have hc := cells_len l
  rw [← hc] at hlen
  have HCA : Hid (Lib.byteCells l ++ [.int .u8 (c.toNat : Int)] = Lib.byteCells (l ++ [c])) := Lib.hid (by unfold Lib.byteCells; rw [List.map_append]; rfl)
  have HCK := Lib.hid (check_b B b _ w h)
  generalize Lib.byteCells l = cs at HCK hlen HCA
  generalize (c.toNat : Int) = ci at HCA
  clear h hc
  go_enter Tryz.func111, Tryz.ntmps111
  go_wp2_with (go_at_call 72; refine HCK.out.mono ?_)
  rintro e w1 ⟨rfl, h1, hb1⟩
  obtain ⟨hB, v, hbk, hown, hne⟩ := h1
  have c0 : w1.cell? ⟨b, 0, none⟩ = some (.pointer (some ⟨b, 0, none⟩)) := by rw [Lib.cell_of_heap hbk]; rfl
  have c1 : w1.cell? ⟨b, 1, none⟩ = some v := by rw [Lib.cell_of_heap hbk]; rfl
  go_wp2_with (at_builtin; refine wpList_append_own _ rfl _ _ 60 rfl B 5 i0 (.int .u8 0) 1 1 Tryz.underlying60 hi hz0 hz1 hz2 rfl (by decide) _ _ _ rfl (hown.alloc _) ⟨w1.heap.size, 0, none⟩ 1 1 [.int .u8 ci] rfl rfl ?c1 ?c2 ?c3 ?c4 ?c5 ?_)
  case c1 =>
    intro j u hj
    match j, hj with
    | 0, hj => simp at hj; subst hj; simp [Addr.add]
  case c2 => intro u hu; simp at hu; subst hu; rfl
  case c3 => unfold maxLen; omega
  case c4 => omega
  case c5 => have := hb1.size; simp; omega
  intro v' w2 hown' hgrow _
  have hlt : b < w1.heap.size := by
    rcases Nat.lt_or_ge b w1.heap.size with h' | h'
    · exact h'
    · simp [Array.getElem?_eq_none h'] at hbk
  have hb2 : w2.heap[b]? = some (.cells #[.pointer (some ⟨b, 0, none⟩), v] 62 (0, 0)) := by
    rw [hgrow.block b (by simp; omega) (fun e => hne e.symm), Lib.alloc_old w1 _ b hlt]
    exact hbk
  have d0 : w2.cell? ⟨b, 0, none⟩ = some (.pointer (some ⟨b, 0, none⟩)) := by rw [Lib.cell_of_heap hb2]; rfl
  have d1 : w2.cell? ⟨b, 1, none⟩ = some v := by rw [Lib.cell_of_heap hb2]; rfl
  have f1 : w2.frozen? ⟨b, 1, none⟩ = false := Lib.frozen_of_heap hb2 1
  obtain ⟨g, cap, rfl⟩ : ∃ g cap, v' = .slice (some ⟨g, 0, none⟩) (cs.length + 1) cap := by
    rcases hown'.2 with ⟨_, h0⟩ | ⟨g, cap, cur, hv, _⟩
    · omega
    · exact ⟨g, cap, hv⟩
  go_wp2
  go_ret
  refine ⟨rfl, ?_, ?_⟩
  · unfold Bld
    rw [← HCA.out]
    exact .inr (Lib.BuilderAt.put (T := 62) (e := 5) hB hb2 (bs' := cs ++ [.int .u8 ci]) (by simpa using hown') (by decide))
  · exact (hb1.trans (BMv.of_below (below1 _ _))).trans (grown_mv hB (hown.alloc _) hgrow 1 _)
/-- String. -/
theorem buS_c (B b : Nat) (l : List UInt8) (w : World) (h : Bld B b l w) (hBw : B ≤ w.heap.size) : Calls Tryz.prog 33 #[.pointer (some ⟨b, 0, none⟩)] w fun e w' => e = .returned (.string (mkB l)) ∧ Below B w w' :=
  Any.Builder_String_any Tryz.layBuS extraB B b l w h hBw
theorem bld_new (w : World) : Bld w.heap.size w.heap.size [] (w.alloc (.cells #[.pointer none, .slice none 0 0] 62)) := Lib.fresh_isBuilder 62 5 w
/-- What leaves the builder alone. -/
theorem Bld.below {B b : Nat} {l : List UInt8} {w w' : World} (h : Bld B b l w) (hb : Below w.heap.size w w') : Bld B b l w' := by
  unfold Bld Lib.IsBuilder Lib.BuilderAt at *
  rcases h with ⟨h1, v, h2, h3, h4⟩ | ⟨h1, v, h2, h3, h4⟩
  · exact .inl ⟨h1, v, (hb.block b (lt_of_cells h2)).trans h2, ownsRow_below h3 hb, h4⟩
  · exact .inr ⟨h1, v, (hb.block b (lt_of_cells h2)).trans h2, ownsRow_below h3 hb, h4⟩
theorem Bld.lt {B b : Nat} {l : List UInt8} {w : World} (h : Bld B b l w) : B ≤ b ∧ b < w.heap.size := by
  rcases h with h | h
  · exact ⟨h.1, h.lt⟩
  · exact ⟨h.1, h.lt⟩
end Go.Proofs.YtjcefgjgjhdbpaaGreatDoor
namespace Go.Proofs.YtjcefgjgjhdbpaaGreatDoor
set_option linter.unusedVariables false
set_option linter.unusedSimpArgs false
open Go.RowKit Go.Shelf Go.Maps

/-- What print leaves. -/
def PrP (B b : Nat) (l t : List UInt8) (w : World) (e : Ending) (w' : World) : Prop := e = .returned (.tuple #[]) ∧ Bld B b (l ++ t) w' ∧ BMv B b w w'
theorem pbs_app (a b : ByteArray) : bs (a ++ b) = bs a ++ bs b := by
  unfold bs
  simp [ByteArray.data_append]
set_option maxHeartbeats 2000000 in
set_option maxRecDepth 100000 in
theorem pr_plain (B b : Nat) (l : List UInt8) (nm ev : ByteArray) (a : Option Addr) (n c : Nat) (w : World) (h : Bld B b l w) (hlen : l.length + nm.size ≤ 140737488355328) (hB : B ≤ w.heap.size) :
    Calls Tryz.prog 74 #[.pointer (some ⟨b, 0, none⟩), .agg #[.int .i64 1, .string nm, .int .i64 0, .string ev, .slice a n c]] w (PrP B b l (bs nm) w) := by
  obtain ⟨w1, e1⟩ : ∃ w1, w.alloc (.cells #[.int .i64 1, .string nm, .int .i64 0, .string ev, .slice a n c] 73) = w1 := ⟨_, rfl⟩
  have H1 : Hid (Below w.heap.size w w1 ∧ BoxN w1 w.heap.size [.int .i64 1, .string nm, .int .i64 0, .string ev, .slice a n c] 73 ∧ Bld B b l w1 ∧ B ≤ w1.heap.size) := Lib.hid (by
    rw [← e1]
    exact ⟨below1 _ _, boxN_alloc _ _ _, h.below (below1 _ _), by simp; omega⟩)
  have hbl := h.lt.2
  have HW := Lib.hid (wrS_c B b l nm w1 H1.out.2.2.1 hlen H1.out.2.2.2)
  have p0 := H1.out.2.1.cell (j := 0) rfl
  have p1 := H1.out.2.1.cell (j := 1) rfl
  clear h
  go_enter Tryz.func74, Tryz.ntmps74
  go_wp2_with fail
  refine HW.out.mono ?_
  rintro e w2 ⟨rfl, hb2, hm2⟩
  have HB2 := Lib.hid hb2
  have HM2 := Lib.hid hm2
  have p2 := (hm2.box H1.out.2.1 (by omega) (by decide)).cell (j := 2) rfl
  clear hb2 hm2 p0 p1
  go_wp2_with fail
  go_end0
  exact ⟨rfl, HB2.out, (BMv.of_below H1.out.1).trans HM2.out⟩
set_option maxHeartbeats 4000000 in
set_option maxRecDepth 100000 in
theorem pr_comp (B b : Nat) (l : List UInt8) (nm ev : ByteArray) (o : Nat) (ho : 1 ≤ o ∧ o ≤ 7) (a : Option Addr) (n c : Nat) (w : World) (h : Bld B b l w) (hlen : l.length + (bs nm ++ (32 :: (signOf (o : Int) ++ (32 :: bs ev)))).length ≤ 140737488355328) (hB : B ≤ w.heap.size) :
    Calls Tryz.prog 74 #[.pointer (some ⟨b, 0, none⟩), .agg #[.int .i64 1, .string nm, .int .i64 (o : Int), .string ev, .slice a n c]] w (PrP B b l (bs nm ++ (32 :: (signOf (o : Int) ++ (32 :: bs ev)))) w) := by
  obtain ⟨w1, e1⟩ : ∃ w1, w.alloc (.cells #[.int .i64 1, .string nm, .int .i64 (o : Int), .string ev, .slice a n c] 73) = w1 := ⟨_, rfl⟩
  have H1 : Hid (Below w.heap.size w w1 ∧ BoxN w1 w.heap.size [.int .i64 1, .string nm, .int .i64 (o : Int), .string ev, .slice a n c] 73 ∧ Bld B b l w1 ∧ B ≤ w1.heap.size) := Lib.hid (by
    rw [← e1]
    exact ⟨below1 _ _, boxN_alloc _ _ _, h.below (below1 _ _), by simp; omega⟩)
  have hbl := h.lt.2
  obtain ⟨sg, hsg⟩ : ∃ sg, signsL[o]? = some sg := ⟨_, List.getElem?_eq_getElem (by show o < 8; omega)⟩
  have hss : sg.size ≤ 3 := by
    have : ∀ s ∈ signsL, s.size ≤ 3 := by decide
    exact this sg (List.mem_of_getElem? hsg)
  have hso : signOf (o : Int) = bs sg := by
    unfold signOf
    rw [Int.toNat_natCast, List.getD_eq_getElem?_getD, hsg]
    rfl
  rw [hso] at hlen ⊢
  simp only [List.length_append, List.length_cons, bs_length] at hlen
  have HSG : Hid (∀ W : World, (W.alloc (.cells (signsL.map Value.string).toArray 9)).cell? ⟨W.heap.size, o, none⟩ = some (.string sg)) := Lib.hid fun W => by
    have := boxN_alloc W (signsL.map Value.string) 9
    exact this.cell (by rw [List.getElem?_map, hsg]; rfl)
  have HW := Lib.hid (wrS_c B b l nm w1 H1.out.2.2.1 (by omega) H1.out.2.2.2)
  have HW2 : Hid (∀ W, Bld B b (l ++ bs nm) W → B ≤ W.heap.size → Calls Tryz.prog 30 #[.pointer (some ⟨b, 0, none⟩), .string ((⟨#[32]⟩ : ByteArray) ++ sg ++ (⟨#[32]⟩ : ByteArray) ++ ev)] W fun e w' => e = .returned (.tuple #[.int .i64 ((⟨#[32]⟩ : ByteArray) ++ sg ++ (⟨#[32]⟩ : ByteArray) ++ ev).size, .nilIface]) ∧ Bld B b (l ++ (bs nm ++ (32 :: (bs sg ++ (32 :: bs ev))))) w' ∧ BMv B b W w') := Lib.hid fun W hW hBW => by
    have h5 := wrS_c B b (l ++ bs nm) ((⟨#[32]⟩ : ByteArray) ++ sg ++ (⟨#[32]⟩ : ByteArray) ++ ev) W hW (by
      simp only [List.length_append, ByteArray.size_append, bs_length]
      have e1 : (⟨#[32]⟩ : ByteArray).size = 1 := rfl
      omega) hBW
    refine h5.mono fun e w' h6 => ⟨h6.1, ?_, h6.2.2⟩
    have h7 := h6.2.1
    simp only [pbs_app] at h7
    have e2 : l ++ bs nm ++ (bs (⟨#[32]⟩ : ByteArray) ++ bs sg ++ bs (⟨#[32]⟩ : ByteArray) ++ bs ev) = l ++ (bs nm ++ (32 :: (bs sg ++ (32 :: bs ev)))) := by
      show l ++ bs nm ++ ([32] ++ bs sg ++ [32] ++ bs ev) = _
      simp [List.append_assoc]
    rwa [e2] at h7
  have z1 : ¬ 9223372036854775807 < 1 + sg.size := by omega
  have z2 : ¬ 9223372036854775807 < 1 + sg.size + 1 := by omega
  have z3 : ¬ 9223372036854775807 < 1 + sg.size + 1 + ev.size := by omega
  have o1 : (0 : Int) < (o : Int) := by omega
  have o2 : (o : Int) < 8 := by omega
  have o3 : ¬ (o : Int) < 0 := by omega
  have o4 : o < 8 := by omega
  have p0 := H1.out.2.1.cell (j := 0) rfl
  have p1 := H1.out.2.1.cell (j := 1) rfl
  clear h hsg hso hss hlen
  go_enter Tryz.func74, Tryz.ntmps74
  go_wp2_with fail
  refine HW.out.mono ?_
  rintro e w2 ⟨rfl, hb2, hm2⟩
  have HB2 := Lib.hid hb2
  have HM2 := Lib.hid hm2
  have HX2 := Lib.hid (hm2.box H1.out.2.1 (by omega) (by decide))
  have HBW2 : Hid (B ≤ w2.heap.size) := Lib.hid (Nat.le_trans H1.out.2.2.2 hm2.size)
  have p2 := HX2.out.cell (j := 2) rfl
  clear hb2 hm2 p0 p1 HW
  go_upto_region 4 with fail
  have HS2 : Hid (∀ W : World, W.heap[w.heap.size]? = w2.heap[w.heap.size]? → W.cell? ⟨w.heap.size, 2, none⟩ = some (.int .i64 (o : Int)) ∧ W.cell? ⟨w.heap.size, 3, none⟩ = some (.string ev)) := Lib.hid fun W hW => ⟨(HX2.out.to hW).cell (j := 2) rfl, (HX2.out.to hW).cell (j := 3) rfl⟩
  clear p2
  refine wp_region_ord (fun W => W.heap[w.heap.size]? = w2.heap[w.heap.size]?) 99 [(true, 0), (true, 2), (true, 3), (true, 8), (true, 9), (false, 1), (false, 4), (false, 5), (false, 6), (false, 7), (false, 10), (false, 11)] (by kernel_rfl) (by kernel_rfl) (fun _ _ d _ _ h => by cases d <;> exact h) rfl ?_
  intro wd hwd hS
  simp only [ordOps, List.map_cons, List.map_nil, Array.getD_eq_getD_getElem?, List.getElem?_toArray, List.getElem?_cons_succ, List.getElem?_cons_zero, Option.getD_some]
  iterate 5 (refine wpOrd_q rfl _ (fun w' hS' K hK => (by obtain ⟨x0, x1⟩ := HS2.out w' hS'; clear hS'; go_simp; exact hK)) (fun K hK => ?_); go_simp; refine hK _ ?_; clear hK K)
  have HBd : Hid (Below w2.heap.size w2 wd) := Lib.hid (by rw [hwd.out]; exact below_dr1 (Below.refl _ _))
  have HSd := Lib.hid hS
  clear hS hwd
  refine wpOrd_l rfl (fun K hK => ?_)
  go_simp
  refine (signs_c wd).mono ?_
  rintro e w3 ⟨rfl, hw3⟩
  have HB3 : Hid (Below wd.heap.size wd w3 ∧ w3.cell? ⟨wd.heap.size, o, none⟩ = some (.string sg)) := Lib.hid (by rw [hw3]; exact ⟨below1 _ _, HSG.out wd⟩)
  have HS3 : Hid (w3.heap[w.heap.size]? = w2.heap[w.heap.size]?) := Lib.hid ((HB3.out.1.block _ (Nat.lt_of_lt_of_le HX2.out.lt HBd.out.size)).trans HSd.out)
  clear hw3
  go_simp
  refine hK _ _ ⟨fun _ => HS3.out, ?_⟩
  clear hK K
  have c3 := HB3.out.2
  iterate 5 (refine wpOrd_l rfl (fun K hK => ?_); go_simp; refine hK _ _ ⟨fun _ => HS3.out, ?_⟩; clear hK K)
  have HBL3 : Hid (Below w2.heap.size w2 w3) := Lib.hid (below_tr HBd.out HB3.out.1)
  refine wpOrd_l rfl (fun K hK => ?_)
  go_simp
  refine (HW2.out w3 (HB2.out.below HBL3.out) (Nat.le_trans HBW2.out HBL3.out.size)).mono ?_
  rintro e w4 ⟨rfl, hb4, hm4⟩
  have HB4 := Lib.hid hb4
  have HM4 := Lib.hid hm4
  have HX3 := Lib.hid (HX2.out.to HS3.out)
  have HX4 := Lib.hid (hm4.box HX3.out (by omega) (by decide))
  clear hb4 hm4
  go_simp
  refine hK _ _ ⟨fun _ => (show w4.heap[w.heap.size]? = _ from HX4.out).trans (show w2.heap[w.heap.size]? = _ from HX2.out).symm, ?_⟩
  clear hK K
  refine wpOrd_nil ?_
  go_wp2_with fail
  go_end0
  exact ⟨rfl, HB4.out, (((BMv.of_below H1.out.1).trans HM2.out).trans (BMv.of_below HBL3.out)).trans HM4.out⟩
end Go.Proofs.YtjcefgjgjhdbpaaGreatDoor
namespace Go.Proofs.YtjcefgjgjhdbpaaGreatDoor
set_option linter.unusedVariables false
set_option linter.unusedSimpArgs false
open Go.RowKit Go.Shelf Go.Maps

theorem bodyP_append (k : Int) : ∀ (xs : List DepT) (i : Nat) (ys : List DepT), bodyP k i (xs ++ ys) = bodyP k i xs ++ bodyP k (i + xs.length) ys
  | [], i, ys => by simp [bodyP]
  | x :: xs, i, ys => by
    rw [List.cons_append, bodyP, bodyP, bodyP_append k xs (i + 1) ys, List.length_cons]
    have e : i + 1 + xs.length = i + (xs.length + 1) := by omega
    rw [e]
    simp [List.append_assoc]
theorem bodyP_take {k : Int} {L : List DepT} {i : Nat} (h : i < L.length) : bodyP k 0 (L.take (i + 1)) = bodyP k 0 (L.take i) ++ (preP k i ++ printB L[i]) := by
  have e : L.take (i + 1) = L.take i ++ [L[i]] := by
    rw [← List.take_append_getElem h]
  rw [e, bodyP_append, List.length_take, Nat.min_eq_left (Nat.le_of_lt h), Nat.zero_add]
  simp [bodyP]
theorem bodyP_le (k : Int) (L : List DepT) (i : Nat) : (bodyP k 0 (L.take i)).length ≤ (bodyP k 0 L).length := by
  have e : bodyP k 0 L = bodyP k 0 (L.take i ++ L.drop i) := by rw [List.take_append_drop]
  rw [e, bodyP_append, List.length_append]
  omega
set_option maxHeartbeats 8000000 in
set_option maxRecDepth 100000 in
theorem pr_node (B b : Nat) (l : List UInt8) (k : Nat) (hk : 2 ≤ k ∧ k ≤ 6) (b' off n c : Nat) (S : Nat → Prop) (hS : ∀ x, S x → x < B) (args : Fin n → DepT) (w : World)
    (hform : ∀ i, formB (args i) = true) (hn : n * 72 ≤ 140737488355328) (hin : ∀ i : Fin n, ∃ cs', DepC w S (args i) cs' ∧ CellsAt w b' (off + i * 5) cs') (hb' : b' < B)
    (ih : ∀ i (cs : List Value) (w : World) (l : List UInt8), DepC w S (args i) cs → formB (args i) = true → Bld B b l w → l.length + (printB (args i)).length ≤ 140737488355328 → B ≤ w.heap.size → Calls Tryz.prog 74 #[.pointer (some ⟨b, 0, none⟩), .agg cs.toArray] w (PrP B b l (printB (args i)) w))
    (h : Bld B b l w) (hlen : l.length + 2 + (bodyP (k : Int) 0 ((List.finRange n).map args)).length ≤ 140737488355328) (hB : B ≤ w.heap.size) :
    Calls Tryz.prog 74 #[.pointer (some ⟨b, 0, none⟩), .agg #[.int .i64 (k : Int), .string ⟨#[]⟩, .int .i64 0, .string ⟨#[]⟩, .slice (some ⟨b', off, none⟩) n c]] w (PrP B b l (40 :: (bodyP (k : Int) 0 ((List.finRange n).map args) ++ [41])) w) := by
  obtain ⟨w1, e1⟩ : ∃ w1, w.alloc (.cells #[.int .i64 (k : Int), .string ⟨#[]⟩, .int .i64 0, .string ⟨#[]⟩, .slice (some ⟨b', off, none⟩) n c] 73) = w1 := ⟨_, rfl⟩
  have H1 : Hid (Below w.heap.size w w1 ∧ BoxN w1 w.heap.size [.int .i64 (k : Int), .string ⟨#[]⟩, .int .i64 0, .string ⟨#[]⟩, .slice (some ⟨b', off, none⟩) n c] 73 ∧ Bld B b l w1 ∧ B ≤ w1.heap.size) := Lib.hid (by
    rw [← e1]
    exact ⟨below1 _ _, boxN_alloc _ _ _, h.below (below1 _ _), by simp; omega⟩)
  have hbl := h.lt
  obtain ⟨L, hL⟩ : ∃ L, (List.finRange n).map args = L := ⟨_, rfl⟩
  have hLn : L.length = n := by rw [← hL]; simp
  have hLi : ∀ i (h : i < n), L[i]? = some (args ⟨i, h⟩) := fun i h => by subst hL; simp [h]
  rw [hL] at hlen ⊢
  have HLN := Lib.hid (And.intro hLn hLi)
  have HLEN := Lib.hid hlen
  have HIN := Lib.hid hin
  have HIH := Lib.hid ih
  have HF := Lib.hid hform
  have HSS := Lib.hid hS
  have HW := Lib.hid (wrB_c B b l 40 w1 H1.out.2.2.1 (by omega) H1.out.2.2.2)
  obtain ⟨wd, hwd⟩ : ∃ wd, wordsL[k]? = some wd := ⟨_, List.getElem?_eq_getElem (by show k < 7; omega)⟩
  have hwo : wordOf (k : Int) = bs wd := by
    unfold wordOf
    rw [Int.toNat_natCast, List.getD_eq_getElem?_getD, hwd]
    rfl
  have HWO := Lib.hid hwo
  have HWD : Hid (∀ W : World, (W.alloc (.cells (wordsL.map Value.string).toArray 9)).cell? ⟨W.heap.size, k, none⟩ = some (.string wd)) := Lib.hid fun W => by
    have := boxN_alloc W (wordsL.map Value.string) 9
    exact this.cell (by rw [List.getElem?_map, hwd]; rfl)
  have hws : wd.size ≤ 7 := by
    have : ∀ s ∈ wordsL, s.size ≤ 7 := by decide
    exact this wd (List.mem_of_getElem? hwd)
  have k1 : ((k : Int) == 1) = false := by
    rw [beq_eq_false_iff_ne]
    omega
  have o2 : (k : Int) < 7 := by omega
  have o3 : ¬ (k : Int) < 0 := by omega
  have o4 : k < 7 := by omega
  have p0 := H1.out.2.1.cell (j := 0) rfl
  have p4 := H1.out.2.1.cell (j := 4) rfl
  clear h hL hLn hLi hlen hin ih hform hS hwd hwo
  go_enter Tryz.func74, Tryz.ntmps74
  go_wp2_with fail
  refine HW.out.mono ?_
  rintro e w2 ⟨rfl, hb2, hm2⟩
  have HX2 := Lib.hid (hm2.box H1.out.2.1 (by omega) (by decide))
  have H2 : Hid (Bld B b (l ++ 40 :: bodyP (k : Int) 0 (L.take 0)) w2 ∧ BMv B b w w2 ∧ BoxN w2 w.heap.size [.int .i64 (k : Int), .string ⟨#[]⟩, .int .i64 0, .string ⟨#[]⟩, .slice (some ⟨b', off, none⟩) n c] 73) := Lib.hid ⟨hb2, (BMv.of_below H1.out.1).trans hm2, HX2.out⟩
  have p4 := HX2.out.cell (j := 4) rfl
  clear hb2 hm2 HW HX2 p0
  go_wp2_with fail
  go_loopw [34] (fun v34 wr => ∃ i : Nat, v34 = .int .i64 (i : Int) ∧ i ≤ n ∧ Hid (Bld B b (l ++ 40 :: bodyP (k : Int) 0 (L.take i)) wr ∧ BMv B b w wr ∧ BoxN wr w.heap.size [.int .i64 (k : Int), .string ⟨#[]⟩, .int .i64 0, .string ⟨#[]⟩, .slice (some ⟨b', off, none⟩) n c] 73)) (fun v34 _ => n - (intOf v34).toNat)
  case atStart => exact ⟨0, rfl, Nat.zero_le _, H2.out⟩
  case round =>
    clear H2
    obtain ⟨i, rfl, hin, HT⟩ := hrel
    by_cases hlt : i < n
    · have hi1 : (i : Int) < (n : Int) := by omega
      obtain ⟨cs', hdc, hcs⟩ := HIN.out ⟨i, hlt⟩
      have HREC : Hid (∀ (W : World) (l' : List UInt8), BMv B b w W → Bld B b l' W → l'.length + (printB (args ⟨i, hlt⟩)).length ≤ 140737488355328 → B ≤ W.heap.size → Calls Tryz.prog 74 #[.pointer (some ⟨b, 0, none⟩), .agg cs'.toArray] W (PrP B b l' (printB (args ⟨i, hlt⟩)) W)) := Lib.hid fun W l' hW hBl hln hBW =>
        HIH.out ⟨i, hlt⟩ cs' W l' (hdc.keep (fun _ hx => hx) (fun x hx hxl => by
          have hxB := HSS.out x hx
          rw [Array.getElem?_eq_getElem hxl]
          exact hW.block x _ (Array.getElem?_eq_getElem hxl) (by omega) (.inl hxB)) (fun _ _ => trivial)) (HF.out ⟨i, hlt⟩) hBl hln hBW
      have HTK : Hid (bodyP (k : Int) 0 (L.take (i + 1)) = bodyP (k : Int) 0 (L.take i) ++ (preP (k : Int) i ++ printB (args ⟨i, hlt⟩)) ∧ (bodyP (k : Int) 0 (L.take (i + 1))).length ≤ (bodyP (k : Int) 0 L).length) := Lib.hid (by
        have hil : i < L.length := by rw [HLN.out.1]; exact hlt
        have h1 := bodyP_take (k := (k : Int)) (L := L) (i := i) hil
        have h2 := HLN.out.2 i hlt
        rw [List.getElem?_eq_getElem hil, Option.some.injEq] at h2
        rw [h2] at h1
        exact ⟨h1, bodyP_le _ _ _⟩)
      obtain ⟨k', nm', op', ev', v', rfl⟩ : ∃ k' nm' op' ev' v', cs' = [.int .i64 k', .string nm', .int .i64 op', .string ev', v'] := by
        cases hd : args ⟨i, hlt⟩ with
        | mk k' nm' op' ev' n' args' =>
          rw [hd] at hdc
          obtain ⟨a', c', e, _⟩ := hdc
          exact ⟨k', nm', op', ev', _, e⟩
      obtain ⟨a', n', c', rfl⟩ : ∃ a' n' c', v' = .slice a' n' c' := by
        cases hd : args ⟨i, hlt⟩ with
        | mk k2 nm2 op2 ev2 n2 args2 =>
          rw [hd] at hdc
          obtain ⟨a2, c2, e, _⟩ := hdc
          simp only [List.cons.injEq, and_true] at e
          exact ⟨a2, n2, c2, e.2.2.2.2⟩
      generalize printB (args ⟨i, hlt⟩) = pt at HREC HTK
      have HCW : Hid (wr.heap[b']? = w.heap[b']?) := Lib.hid (by
        have hxl : b' < w.heap.size := by omega
        rw [Array.getElem?_eq_getElem hxl]
        exact HT.out.2.1.block b' _ (Array.getElem?_eq_getElem hxl) (by omega) (.inl hb'))
      have q0 : wr.cell? ⟨b', off + i * 5, none⟩ = some (.int .i64 k') := (hcs.keep HCW.out) 0 _ rfl
      have q1 := (hcs.keep HCW.out) 1 _ rfl
      have q2 := (hcs.keep HCW.out) 2 _ rfl
      have q3 := (hcs.keep HCW.out) 3 _ rfl
      have q4 := (hcs.keep HCW.out) 4 _ rfl
      clear hcs hdc
      have HAL : Hid (∀ W, wr.alloc (.cells #[.int .i64 k', .string nm', .int .i64 op', .string ev', .slice a' n' c'] 73) = W → Below wr.heap.size wr W ∧ BoxN W wr.heap.size [.int .i64 k', .string nm', .int .i64 op', .string ev', .slice a' n' c'] 73) := Lib.hid (by
        rintro W rfl
        exact ⟨below1 _ _, boxN_alloc _ _ _⟩)
      go_upto_region 9 with fail
      obtain ⟨wA, hA⟩ : ∃ wA, wr.alloc (.cells #[.int .i64 k', .string nm', .int .i64 op', .string ev', .slice a' n' c'] 73) = wA := ⟨_, rfl⟩
      have HA := Lib.hid (HAL.out wA hA)
      rw [hA]
      clear hA HAL HCW q0 q1 q2 q3 q4
      have HWX : Hid (BoxN wA w.heap.size [.int .i64 (k : Int), .string ⟨#[]⟩, .int .i64 0, .string ⟨#[]⟩, .slice (some ⟨b', off, none⟩) n c] 73) := Lib.hid (HT.out.2.2.below HA.out.1)
      have HSA : Hid (∀ W : World, W.heap[w.heap.size]? = wA.heap[w.heap.size]? → W.cell? ⟨w.heap.size, 0, none⟩ = some (.int .i64 (k : Int))) := Lib.hid fun W hW => (HWX.out.to hW).cell (j := 0) rfl
      refine wp_region_ord (fun W => W.heap[w.heap.size]? = wA.heap[w.heap.size]?) 99 [(true, 1), (true, 2), (false, 0), (false, 3), (false, 4), (false, 5)] (by kernel_rfl) (by kernel_rfl) (fun _ _ d _ _ h => by cases d <;> exact h) rfl ?_
      intro wq hwd hS
      simp only [ordOps, List.map_cons, List.map_nil, Array.getD_eq_getD_getElem?, List.getElem?_toArray, List.getElem?_cons_succ, List.getElem?_cons_zero, Option.getD_some]
      iterate 2 (refine wpOrd_q rfl _ (fun w' hS' K hK => (by have x0 := HSA.out w' hS'; clear hS'; go_simp; exact hK)) (fun K hK => ?_); go_simp; refine hK _ ?_; clear hK K)
      have HBd : Hid (Below wA.heap.size wA wq) := Lib.hid (by rw [hwd.out]; exact below_dr1 (Below.refl _ _))
      have HSd := Lib.hid hS
      clear hS hwd
      refine wpOrd_l rfl (fun K hK => ?_)
      go_simp
      refine (words_c wq).mono ?_
      rintro e w3 ⟨rfl, hw3⟩
      have HB3 : Hid (Below wq.heap.size wq w3 ∧ w3.cell? ⟨wq.heap.size, k, none⟩ = some (.string wd)) := Lib.hid (by rw [hw3]; exact ⟨below1 _ _, HWD.out wq⟩)
      have HS3 : Hid (w3.heap[w.heap.size]? = wA.heap[w.heap.size]?) := Lib.hid ((HB3.out.1.block _ (Nat.lt_of_lt_of_le HWX.out.lt HBd.out.size)).trans HSd.out)
      clear hw3
      go_simp
      refine hK _ _ ⟨fun _ => HS3.out, ?_⟩
      clear hK K
      have c3 := HB3.out.2
      iterate 3 (refine wpOrd_l rfl (fun K hK => ?_); go_simp; refine hK _ _ ⟨fun _ => HS3.out, ?_⟩; clear hK K)
      refine wpOrd_nil ?_
      have HBL3 : Hid (Below wr.heap.size wr w3 ∧ BoxN w3 wr.heap.size [.int .i64 k', .string nm', .int .i64 op', .string ev', .slice a' n' c'] 73 ∧ BoxN w3 w.heap.size [.int .i64 (k : Int), .string ⟨#[]⟩, .int .i64 0, .string ⟨#[]⟩, .slice (some ⟨b', off, none⟩) n c] 73 ∧ BMv B b w w3 ∧ Bld B b (l ++ 40 :: bodyP (k : Int) 0 (L.take i)) w3) := Lib.hid (by
        have h1 := below_tr HBd.out HB3.out.1
        have h2 := below_tr HA.out.1 h1
        exact ⟨h2, HA.out.2.below h1, HWX.out.below h1, HT.out.2.1.trans (BMv.of_below h2), HT.out.1.below h2⟩)
      have p0 := HBL3.out.2.2.1.cell (j := 0) rfl
      have HT3 := Lib.hid HBL3.out.2.2.2.2
      have HB0 : Hid (B ≤ w3.heap.size) := Lib.hid (Nat.le_trans hB HBL3.out.2.2.2.1.size)
      have HLE : Hid (l.length + 2 + ((bodyP (k : Int) 0 (L.take i)).length + ((preP (k : Int) i).length + pt.length)) ≤ 140737488355328) := Lib.hid (by
        have h1 := HTK.out.2
        rw [HTK.out.1, List.length_append, List.length_append] at h1
        have h2 := HLEN.out
        omega)
      have HWW : Hid (∀ wo : ByteArray, wo.size ≤ 7 → bs wo = wordAt (k : Int) i → 0 < i → Calls Tryz.prog 30 #[.pointer (some ⟨b, 0, none⟩), .string ((⟨#[32]⟩ : ByteArray) ++ wo ++ (⟨#[32]⟩ : ByteArray))] w3 fun e w' => e = .returned (.tuple #[.int .i64 ((⟨#[32]⟩ : ByteArray) ++ wo ++ (⟨#[32]⟩ : ByteArray)).size, .nilIface]) ∧ Bld B b ((l ++ 40 :: bodyP (k : Int) 0 (L.take i)) ++ preP (k : Int) i) w' ∧ BMv B b w3 w') := Lib.hid fun wo hwo hwe hi0 => by
        have h1 : bs ((⟨#[32]⟩ : ByteArray) ++ wo ++ (⟨#[32]⟩ : ByteArray)) = preP (k : Int) i := by
          rw [preP, if_pos hi0, ← hwe, pbs_app, pbs_app]
          rfl
        have h2 := wrS_c B b _ ((⟨#[32]⟩ : ByteArray) ++ wo ++ (⟨#[32]⟩ : ByteArray)) w3 HBL3.out.2.2.2.2 (by
          rw [← bs_length, h1]
          have := HLE.out
          simp only [List.length_append, List.length_cons]
          omega) HB0.out
        rw [h1] at h2
        exact h2
      have HRC : Hid (∀ W, BMv B b w3 W → Bld B b ((l ++ 40 :: bodyP (k : Int) 0 (L.take i)) ++ preP (k : Int) i) W → Calls Tryz.prog 74 #[.pointer (some ⟨b, 0, none⟩), .agg #[.int .i64 k', .string nm', .int .i64 op', .string ev', .slice a' n' c']] W fun e w' => e = .returned (.tuple #[]) ∧ (Bld B b (l ++ 40 :: bodyP (k : Int) 0 (L.take (i + 1))) w' ∧ BMv B b w w' ∧ BoxN w' w.heap.size [.int .i64 (k : Int), .string ⟨#[]⟩, .int .i64 0, .string ⟨#[]⟩, .slice (some ⟨b', off, none⟩) n c] 73)) := Lib.hid fun W hm hb => by
        refine (HREC.out W _ (HBL3.out.2.2.2.1.trans hm) hb (by
          have := HLE.out
          simp only [List.length_append, List.length_cons]
          omega) (Nat.le_trans HB0.out hm.size)).mono fun e w' h => ⟨h.1, ?_, (HBL3.out.2.2.2.1.trans hm).trans h.2.2, (hm.trans h.2.2).box HBL3.out.2.2.1 (by omega) (by decide)⟩
        have h1 := h.2.1
        rw [HTK.out.1]
        have e1 : (l ++ 40 :: bodyP (k : Int) 0 (L.take i) ++ preP (k : Int) i) ++ pt = l ++ 40 :: (bodyP (k : Int) 0 (L.take i) ++ (preP (k : Int) i ++ pt)) := by simp
        rw [← e1]
        exact h1
      have HQ : Hid (∀ W, BMv B b w3 W → ∀ (j : Nat) (v : Value), ([.int .i64 k', .string nm', .int .i64 op', .string ev', .slice a' n' c'] : List Value)[j]? = some v → W.cell? ⟨wr.heap.size, j, none⟩ = some v) := Lib.hid fun W hm j v hj => (hm.box HBL3.out.2.1 (by have := hbl.2; have := HT.out.2.1.size; omega) (by decide)).cell hj
      clear HA HWX HSA HBd HSd c3 HB3 HS3 HREC HBL3
      by_cases hi0 : i = 0
      · have hP : Hid (preP (k : Int) i = []) := Lib.hid (by rw [hi0]; rfl)
        have g0 : ¬ (0 : Int) < (i : Int) := by omega
        have g2 : ((i : Int) == 2) = false := by rw [beq_eq_false_iff_ne]; omega
        have q0 := HQ.out w3 (BMv.refl B b w3) 0 _ rfl
        have q1 := HQ.out w3 (BMv.refl B b w3) 1 _ rfl
        have q2 := HQ.out w3 (BMv.refl B b w3) 2 _ rfl
        have q3 := HQ.out w3 (BMv.refl B b w3) 3 _ rfl
        have q4 := HQ.out w3 (BMv.refl B b w3) 4 _ rfl
        have HR := Lib.hid (HRC.out w3 (BMv.refl B b w3))
        rw [hP.out, List.append_nil] at HR
        have HR2 := Lib.hid (HR.out HT3.out)
        by_cases hk : ((k : Int) == 4) = true
        · go_wp2_with fail
          refine (HR2.out).mono ?_
          rintro e w5 ⟨rfl, hx5⟩
          have HX5 := Lib.hid hx5
          clear hx5 q0 q1 q2 q3 q4
          go_wp2_with fail
          go_roundw
          case rel => exact ⟨i + 1, by go_num, by omega, HX5⟩
          case measure => simp [intOf]; omega
        · have hk : ((k : Int) == 4) = false := by simpa using hk
          go_wp2_with fail
          refine (HR2.out).mono ?_
          rintro e w5 ⟨rfl, hx5⟩
          have HX5 := Lib.hid hx5
          clear hx5 q0 q1 q2 q3 q4
          go_wp2_with fail
          go_roundw
          case rel => exact ⟨i + 1, by go_num, by omega, HX5⟩
          case measure => simp [intOf]; omega
      · have g0 : (0 : Int) < (i : Int) := by omega
        have HIP : Hid (0 < i) := Lib.hid (by omega)
        by_cases hk : ((k : Int) == 4) = true
        · by_cases hi2 : ((i : Int) == 2) = true
          · have HE := Lib.hid (HWW.out ⟨#[101, 108, 115, 101]⟩ (by decide) (by
              have e1 : (k : Int) = 4 := by simpa using hk
              have e2 : i = 2 := by have : (i : Int) = 2 := by simpa using hi2
                                    omega
              rw [wordAt, if_pos ⟨e1, e2⟩]
              rfl) HIP.out)
            have z1 : ¬ 9223372036854775807 < 1 + wd.size := by omega
            have z2 : ¬ 9223372036854775807 < 1 + wd.size + 1 := by omega
            go_wp2_with fail
            refine HE.out.mono ?_
            rintro e w4 ⟨rfl, hb4, hm4⟩
            have HR2 := Lib.hid (HRC.out w4 hm4 hb4)
            have q0 := HQ.out w4 hm4 0 _ rfl
            have q1 := HQ.out w4 hm4 1 _ rfl
            have q2 := HQ.out w4 hm4 2 _ rfl
            have q3 := HQ.out w4 hm4 3 _ rfl
            have q4 := HQ.out w4 hm4 4 _ rfl
            clear hb4 hm4 HE p0
            go_wp2_with fail
            refine (HR2.out).mono ?_
            rintro e w5 ⟨rfl, hx5⟩
            have HX5 := Lib.hid hx5
            clear hx5 q0 q1 q2 q3 q4
            go_wp2_with fail
            go_roundw
            case rel => exact ⟨i + 1, by go_num, by omega, HX5⟩
            case measure => simp [intOf]; omega
          · have hi2 : ((i : Int) == 2) = false := by simpa using hi2
            have HE := Lib.hid (HWW.out wd hws (by
              rw [wordAt, if_neg (by
                rintro ⟨_, e⟩
                rw [e] at hi2
                exact absurd hi2 (by decide)), HWO.out]) HIP.out)
            have z1 : ¬ 9223372036854775807 < 1 + wd.size := by omega
            have z2 : ¬ 9223372036854775807 < 1 + wd.size + 1 := by omega
            go_wp2_with fail
            refine HE.out.mono ?_
            rintro e w4 ⟨rfl, hb4, hm4⟩
            have HR2 := Lib.hid (HRC.out w4 hm4 hb4)
            have q0 := HQ.out w4 hm4 0 _ rfl
            have q1 := HQ.out w4 hm4 1 _ rfl
            have q2 := HQ.out w4 hm4 2 _ rfl
            have q3 := HQ.out w4 hm4 3 _ rfl
            have q4 := HQ.out w4 hm4 4 _ rfl
            clear hb4 hm4 HE p0
            go_wp2_with fail
            refine (HR2.out).mono ?_
            rintro e w5 ⟨rfl, hx5⟩
            have HX5 := Lib.hid hx5
            clear hx5 q0 q1 q2 q3 q4
            go_wp2_with fail
            go_roundw
            case rel => exact ⟨i + 1, by go_num, by omega, HX5⟩
            case measure => simp [intOf]; omega
        · have hk : ((k : Int) == 4) = false := by simpa using hk
          have HE := Lib.hid (HWW.out wd hws (by
              rw [wordAt, if_neg (by
                rintro ⟨e, _⟩
                rw [e] at hk
                exact absurd hk (by decide)), HWO.out]) HIP.out)
          have z1 : ¬ 9223372036854775807 < 1 + wd.size := by omega
          have z2 : ¬ 9223372036854775807 < 1 + wd.size + 1 := by omega
          go_wp2_with fail
          refine HE.out.mono ?_
          rintro e w4 ⟨rfl, hb4, hm4⟩
          have HR2 := Lib.hid (HRC.out w4 hm4 hb4)
          have q0 := HQ.out w4 hm4 0 _ rfl
          have q1 := HQ.out w4 hm4 1 _ rfl
          have q2 := HQ.out w4 hm4 2 _ rfl
          have q3 := HQ.out w4 hm4 3 _ rfl
          have q4 := HQ.out w4 hm4 4 _ rfl
          clear hb4 hm4 HE p0
          go_wp2_with fail
          refine (HR2.out).mono ?_
          rintro e w5 ⟨rfl, hx5⟩
          have HX5 := Lib.hid hx5
          clear hx5 q0 q1 q2 q3 q4
          go_wp2_with fail
          go_roundw
          case rel => exact ⟨i + 1, by go_num, by omega, HX5⟩
          case measure => simp [intOf]; omega
    · have hi1 : ¬ (i : Int) < (n : Int) := by omega
      have HFIN : Hid (bodyP (k : Int) 0 (L.take i) = bodyP (k : Int) 0 L) := Lib.hid (by rw [List.take_of_length_le (by have := HLN.out.1; omega)])
      have HW3 := Lib.hid (wrB_c B b (l ++ 40 :: bodyP (k : Int) 0 (L.take i)) 41 wr HT.out.1 (by
        have := HLEN.out
        rw [HFIN.out, List.length_append, List.length_cons]
        omega) (Nat.le_trans hB HT.out.2.1.size))
      go_wp2_with fail
      refine HW3.out.mono ?_
      rintro e w3 ⟨rfl, hb3, hm3⟩
      have HB3 := Lib.hid hb3
      have HM3 := Lib.hid hm3
      clear hb3 hm3
      go_wp2_with fail
      go_end0
      refine ⟨rfl, ?_, HT.out.2.1.trans HM3.out⟩
      have h9 := HB3.out
      rw [HFIN.out, List.append_assoc] at h9
      exact h9
end Go.Proofs.YtjcefgjgjhdbpaaGreatDoor
namespace Go.Proofs.YtjcefgjgjhdbpaaGreatDoor
set_option linter.unusedVariables false
set_option linter.unusedSimpArgs false
open Go.RowKit Go.Shelf Go.Maps

theorem none_ba {s : ByteArray} (h : s.size = 0) : s = ⟨#[]⟩ := by
  cases s with
  | mk d =>
    have : d = #[] := Array.eq_empty_of_size_eq_zero h
    rw [this]
theorem print_c : ∀ (d : DepT) (cs : List Value) (S : Nat → Prop) (B b : Nat) (w : World) (l : List UInt8), DepC w S d cs → formB d = true → (∀ x, S x → x < B) → Bld B b l w → l.length + (printB d).length ≤ 140737488355328 → B ≤ w.heap.size →
    Calls Tryz.prog 74 #[.pointer (some ⟨b, 0, none⟩), .agg cs.toArray] w (PrP B b l (printB d) w) := by
  intro d
  induction d with
  | mk k nm op ev n args ih =>
    intro cs S B b w l h hf hS hb hlen hB
    obtain ⟨a, c, rfl, hw, hnm, hev, hn, hin⟩ := h
    by_cases hk : k = 1
    · subst hk
      obtain ⟨h1, h2, h3⟩ := wform_name hf
      unfold printB at hlen ⊢
      rw [if_pos rfl] at hlen ⊢
      rcases h3 with ⟨rfl, h4⟩ | ⟨h4, h5, h6⟩
      · rw [if_neg (by decide)] at hlen ⊢
        exact pr_plain B b l nm ev a n c w hb (by rw [← bs_length]; exact hlen) hB
      · rw [if_pos (by omega)] at hlen ⊢
        obtain ⟨o, rfl⟩ : ∃ o : Nat, op = (o : Int) := ⟨op.toNat, by omega⟩
        exact pr_comp B b l nm ev o ⟨by omega, by omega⟩ a n c w hb hlen hB
    · obtain ⟨a1, a2, a3, a4, a5, a6, _, _, a9⟩ := wform_node hk hf
      rw [print_node hk] at hlen ⊢
      obtain ⟨o, rfl⟩ : ∃ o : Nat, k = (o : Int) := ⟨k.toNat, by omega⟩
      obtain rfl := none_ba a3
      obtain rfl := none_ba a5
      obtain rfl := a4
      obtain ⟨b', off, rfl, hs, hi⟩ := hin (by omega)
      refine pr_node B b l o ⟨by omega, by omega⟩ b' off n c S hS args w a9 hn hi (hS _ hs) (fun i cs' w' l' hd hf' hbl hln hB' => ih i cs' S B b w' l' hd hf' hS hbl hln hB') hb ?_ hB
      simp only [List.length_cons, List.length_append, List.length_nil] at hlen
      omega
set_option maxHeartbeats 2000000 in
set_option maxRecDepth 100000 in
theorem dprint_c (d : DepT) (cs : List Value) (S : Nat → Prop) (w : World) (h : DepC w S d cs) (hS : ∀ b, S b → b < w.heap.size) (hck : depCheck d = 0) (hlen : (printB d).length ≤ 140737488355328) :
    Calls Tryz.prog 32 #[.agg cs.toArray] w fun e w' => e = .returned (.tuple #[.string (mkB (printB d)), .int .i64 0]) ∧ Below w.heap.size w w' := by
  have hf : formB d = true := by
    unfold depCheck at hck
    cases hd : formB d with
    | true => rfl
    | false => rw [hd, if_pos rfl] at hck; exact absurd hck (by decide)
  have HC := Lib.hid fun W hd hs => depCheck_c d cs S W hd hs
  have HP := Lib.hid fun B b W (hd : DepC W S d cs) hs hb hB => print_c d cs S B b W [] hd hf hs hb (by simpa using hlen) hB
  rw [hck] at HC
  generalize printB d = pt at HP
  have HH := Lib.hid h
  have HS := Lib.hid hS
  obtain ⟨k, nm, op, ev, a, n, c, rfl⟩ : ∃ k nm op ev a n c, cs = [.int .i64 k, .string nm, .int .i64 op, .string ev, .slice a n c] := by
    cases d with
    | mk k nm op ev n args =>
      obtain ⟨a, c, rfl, _⟩ := h
      exact ⟨_, _, _, _, _, _, _, rfl⟩
  clear h hS hck hf hlen
  obtain ⟨w1, e1⟩ : ∃ w1, w.alloc (.cells #[.int .i64 k, .string nm, .int .i64 op, .string ev, .slice a n c] 73) = w1 := ⟨_, rfl⟩
  have HB1 : Hid (Below w.heap.size w w1 ∧ Box5 w1 w.heap.size k nm op ev (.slice a n c)) := by
    rw [← e1]
    exact ⟨below1 _ _, .of (alloc_at _ _)⟩
  have p0 := HB1.out.2.c0
  have p1 := HB1.out.2.c1
  have p2 := HB1.out.2.c2
  have p3 := HB1.out.2.c3
  have p4 := HB1.out.2.c4
  go_enter Tryz.func32, Tryz.ntmps32
  go_wp2_with fail
  refine (HC.out w1 (HH.out.below HB1.out.1) (fun x hx => Nat.lt_of_lt_of_le (HS.out x hx) HB1.out.1.size)).mono ?_
  rintro e w2 ⟨rfl, hb2⟩
  obtain ⟨w3, e3⟩ : ∃ w3, w2.alloc (.cells #[.pointer none, .slice none 0 0] 62) = w3 := ⟨_, rfl⟩
  have HB3 : Hid (Below w.heap.size w w3 ∧ Box5 w3 w.heap.size k nm op ev (.slice a n c) ∧ Bld w2.heap.size w2.heap.size [] w3 ∧ w.heap.size ≤ w2.heap.size ∧ w2.heap.size ≤ w3.heap.size) := Lib.hid (by
    have h2 := below_tr HB1.out.1 hb2
    rw [← e3]
    exact ⟨below_tr h2 (below1 _ _), (HB1.out.2.below hb2).below (below1 _ _), bld_new _, h2.size, by simp⟩)
  clear hb2 p0 p1 p2 p3 p4
  have p0 := HB3.out.2.1.c0
  have p1 := HB3.out.2.1.c1
  have p2 := HB3.out.2.1.c2
  have p3 := HB3.out.2.1.c3
  have p4 := HB3.out.2.1.c4
  go_wp2_with fail
  refine (HP.out w2.heap.size w2.heap.size w3 (HH.out.below HB3.out.1) (fun x hx => Nat.lt_of_lt_of_le (HS.out x hx) HB3.out.2.2.2.1) HB3.out.2.2.1 HB3.out.2.2.2.2).mono ?_
  rintro e w4 ⟨rfl, hb4, hm4⟩
  have HB4 := Lib.hid hb4
  have HM4 : Hid (Below w.heap.size w w4 ∧ w2.heap.size ≤ w4.heap.size) := Lib.hid (by
    have h5 := hm4.below (Nat.le_refl _) HB3.out.2.2.2.2
    exact ⟨HB3.out.1.trans (h5.mono HB3.out.2.2.2.1), Nat.le_trans HB3.out.2.2.2.2 h5.size⟩)
  clear hb4 hm4 p0 p1 p2 p3 p4
  go_wp2_with fail
  refine (buS_c w2.heap.size w2.heap.size _ w4 HB4.out HM4.out.2).mono ?_
  rintro e w5 ⟨rfl, hb5⟩
  have HB5 : Hid (Below w.heap.size w w5) := Lib.hid (HM4.out.1.trans (hb5.mono HB3.out.2.2.2.1))
  clear hb5
  go_wp2_with fail
  go_ret2
  exact ⟨rfl, HB5.out⟩
end Go.Proofs.YtjcefgjgjhdbpaaGreatDoor
