/-
  How a table of names lies in memory: the representation of the plain tables of the text Spec, of the program's and of the document's. Helper text; no conditions.
-/
import Derived.Test.YthjhjifihhhphaaDoorRows
import Derived.Test.YthjhjifihhhphaaDoorSpec
import Derived.Test.YthjhjifihhhphaaDoorLib
import Derived.WalkLawsBesides
import Derived.KernelRfl
import Derived.Maps.AppendAt
import Derived.DeepKeys4
namespace Go.Proofs.YthjhjifihhhphaaDoor
set_option linter.unusedVariables false
set_option linter.unusedSimpArgs false
open Go.RowKit Go.Maps
open Go.ChangeMaps Go.WideMaps Go.WideElems

theorem lawStr : Keyed Tryd.prog 9 := string_keyed Tryd.underlying9
theorem laidOut : laidOutB Tryd.prog = true := by kernel_rfl
theorem row59 : 40 < Tryd.prog.types.size := of_decide_eq_true (by kernel_rfl)
theorem wide59 : (match Tryd.prog.underlying 40 with | some (.array _ _) | some (.struct _) => true | _ => false) = true := by kernel_rfl
theorem lawRel : Keyed Tryd.prog 40 := Keyed.of_law (deep_law_laid laidOut (m := 2) (by omega) row59 (by kernel_rfl) wide59)
theorem zero3 (w : World) : (zeroValue 3).run Tryd.prog w = .ok (.int .i64 0) w := by kernel_rfl
theorem info9 : (Tryd.prog.info? 9).map (fun i => (i.zero, i.size, i.bytes)) = some (some (.string ⟨#[]⟩), 1, 16) := by kernel_rfl
theorem info59 : (Tryd.prog.info? 40).map (fun i => (i.zero, i.size, i.bytes)) = some (some (.agg #[.int .i64 0, .int .i64 0, .int .i64 0]), 3, 24) := by kernel_rfl

/-- What the map of names holds. -/
def idsF (names : List ByteArray) : Value → Option Int
  | .string s => (pos names s).map (fun n : Nat => (n : Int))
  | _ => none

/-- What the map of comparisons holds. -/
def relF (rels : List (Int × Int × Int)) : Value → Option Int
  | .agg cs => match cs.toList with
    | [.int .i64 a, .int .i64 b, .int .i64 c] => (pos rels (a, b, c)).map (fun n : Nat => (n : Int))
    | _ => none
  | _ => none

def relCells (r : Int × Int × Int) : List Value := [.int .i64 r.1, .int .i64 r.2.1, .int .i64 r.2.2]

/-- Block b is the program's table t; its own blocks are those of S. -/
structure TabIn (w : World) (b : Nat) (t : Tab) (nv lv : Value) (mi mp : Nat) (S : Nat → Prop) : Prop where
  blk : w.heap[b]? = some (.cells #[nv, .map (some mi), lv, .map (some mp)] 36 (0, 0))
  nrow : w.ownsRow 0 9 1 nv t.names.length (t.names.map Value.string)
  lrow : w.ownsRow 0 40 3 lv t.rels.length (t.rels.flatMap relCells)
  ids : MapIs Tryd.prog 9 3 w mi t.names.length (idsF t.names)
  places : MapIs Tryd.prog 40 3 w mp t.rels.length (relF t.rels)
  ok : t.Ok
  sb : S b
  sn : ∀ k, nv.ownBlock = some k → S k
  sl : ∀ k, lv.ownBlock = some k → S k
  si : S mi
  sp : S mp
  bn : ∀ k, nv.ownBlock = some k → k ≠ b
  bl : ∀ k, lv.ownBlock = some k → k ≠ b
  nl : ∀ k, nv.ownBlock = some k → lv.ownBlock ≠ some k
  bi : b ≠ mi
  bp : b ≠ mp
  ni : ∀ k, nv.ownBlock = some k → k ≠ mi
  np : ∀ k, nv.ownBlock = some k → k ≠ mp
  li : ∀ k, lv.ownBlock = some k → k ≠ mi
  lp : ∀ k, lv.ownBlock = some k → k ≠ mp
  ip : mi ≠ mp
  slt : ∀ k, S k → k < w.heap.size

def TabAt (w : World) (b : Nat) (t : Tab) (S : Nat → Prop) : Prop := ∃ nv lv mi mp, TabIn w b t nv lv mi mp S

theorem TabAt.kept {w w' : World} {b : Nat} {t : Tab} {S : Nat → Prop} (h : TabAt w b t S) (hs : w.heap.size ≤ w'.heap.size) (hb : ∀ k, S k → w'.heap[k]? = w.heap[k]?) : TabAt w' b t S := by
  obtain ⟨nv, lv, mi, mp, h⟩ := h
  exact ⟨nv, lv, mi, mp, (hb b h.sb).trans h.blk, ownsRow_block h.nrow (fun g hg => hb g (h.sn g hg)), ownsRow_block h.lrow (fun g hg => hb g (h.sl g hg)), h.ids.block (hb mi h.si), h.places.block (hb mp h.sp), h.ok, h.sb, h.sn, h.sl, h.si, h.sp, h.bn, h.bl, h.nl, h.bi, h.bp, h.ni, h.np, h.li, h.lp, h.ip, fun k hk => Nat.lt_of_lt_of_le (h.slt k hk) hs⟩

theorem TabAt.lt {w : World} {b : Nat} {t : Tab} {S : Nat → Prop} (h : TabAt w b t S) (k : Nat) (hk : S k) : k < w.heap.size := by
  obtain ⟨nv, lv, mi, mp, h⟩ := h
  exact h.slt k hk

/-- What is done to other blocks leaves the table. -/
theorem TabAt.chg {w w' : World} {b : Nat} {t : Tab} {S S' : Nat → Prop} (h : TabAt w b t S) (hc : Chg S' w w') (hd : ∀ k, S k → ¬ S' k) : TabAt w' b t S :=
  h.kept hc.size (fun k hk => hc.block k (h.lt k hk) (hd k hk))

theorem TabAt.ok {w : World} {b : Nat} {t : Tab} {S : Nat → Prop} (h : TabAt w b t S) : t.Ok := by
  obtain ⟨nv, lv, mi, mp, h⟩ := h
  exact h.ok

/-- What a call leaves that writes the table in block b alone, whose blocks were those of S: the table is now t'. -/
def TabPost (w : World) (S : Nat → Prop) (b : Nat) (t' : Tab) (w' : World) : Prop :=
  ∃ S', TabAt w' b t' S' ∧ Chg S w w' ∧ ∀ k, S' k → S k ∨ w.heap.size ≤ k

theorem keyStr {s : ByteArray} (hs : s.size ≤ maxLen) : keyOf Tryd.prog 9 (.string s) = some (.string s.data.toList) := keyOf_string_mk Tryd.underlying9 hs

theorem cell_of_blk {w : World} {b : Nat} {cs : Array Value} {T : TypeId} (h : w.heap[b]? = some (.cells cs T (0, 0))) (i : Nat) {v : Value} (hv : cs[i]? = some v) : w.cell? ⟨b, i, none⟩ = some v := by
  simp [World.cell?, h, hv]
theorem free_of_blk {w : World} {b : Nat} {cs : Array Value} {T : TypeId} (h : w.heap[b]? = some (.cells cs T (0, 0))) (i : Nat) : w.frozen? ⟨b, i, none⟩ = false := by
  simp [World.frozen?, h]
/-- A store into a block that is known whole. -/
theorem blk_set {w : World} {b : Nat} {cs : Array Value} {T : TypeId} (h : w.heap[b]? = some (.cells cs T (0, 0))) (i : Nat) (v : Value) : (w.setCell ⟨b, i, none⟩ v).heap[b]? = some (.cells (cs.setIfInBounds i v) T (0, 0)) := by
  simp [World.setCell, Array.getElem?_modify, h]
theorem sz : Tryd.prog.types.size = 74 := by kernel_rfl
theorem kt59 : Tryd.prog.keyType 40 = true := by kernel_rfl
theorem co3 : Tryd.prog.cellsOf 3 = 1 := by kernel_rfl
theorem co59 : Tryd.prog.cellsOf 40 = 3 := by kernel_rfl
theorem formed59 (a b c : Value) : (Value.agg #[a, b, c]).formed Tryd.prog 40 = true := by kernel_rfl
theorem keyLits3 (d : Nat) {a : Int} (ha : (Lit.int .i64 a).wf = true) : Tryd.prog.keyLits (d + 1) 3 [.int .i64 a] = some [.int .i64 a] := by
  unfold Program.keyLits
  rw [Tryd.underlying3]
  simp [ha]
theorem keyRel {a b c : Int} (ha : (Lit.int .i64 a).wf = true) (hb : (Lit.int .i64 b).wf = true) (hc : (Lit.int .i64 c).wf = true) :
   keyOf Tryd.prog 40 (.agg #[.int .i64 a, .int .i64 b, .int .i64 c]) = some (.string (keyBytes [.int .i64 a, .int .i64 b, .int .i64 c])) := by
  unfold keyOf
  rw [Tryd.underlying40]
  simp only [kt59, formed59, sz]
  have : Tryd.prog.keyLits (73 + 1 + 1) 40 [.int .i64 a, .int .i64 b, .int .i64 c] = some [.int .i64 a, .int .i64 b, .int .i64 c] := by
    unfold Program.keyLits
    rw [Tryd.underlying40]
    simp [co3, co59, keyLits3 73 ha, keyLits3 73 hb, keyLits3 73 hc]
  simp [Value.cells, this]

end Go.Proofs.YthjhjifihhhphaaDoor
