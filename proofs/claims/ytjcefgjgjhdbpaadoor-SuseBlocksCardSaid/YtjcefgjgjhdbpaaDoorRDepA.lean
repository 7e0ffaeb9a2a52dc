/-
  The names of a dependency, counted by the document's answer: the walk. Helper text; the conditions are those typed.
-/
import Derived.Test.YtjcefgjgjhdbpaaDoorDepChk
namespace Go.Proofs.YtjcefgjgjhdbpaaDoor
set_option linter.unusedVariables false
set_option linter.unusedSimpArgs false
open Go.RowKit Go.Maps

/-- The element of a list of dependencies: the five cells, the dependency taken apart. -/
structure ElemAt (w : World) (S : Nat → Prop) (d : DepT) (b o : Nat) (k : Int) (nm : ByteArray) (op : Int) (ev : ByteArray) (a : Option Addr) (n c : Nat) (args : Fin n → DepT) : Prop where
  is_ : d = .mk k nm op ev n args
  dep : DepC w S d [.int .i64 k, .string nm, .int .i64 op, .string ev, .slice a n c]
  c0 : w.cell? ⟨b, o, none⟩ = some (.int .i64 k)
  c1 : w.cell? ⟨b, o + 1, none⟩ = some (.string nm)
  c2 : w.cell? ⟨b, o + 2, none⟩ = some (.int .i64 op)
  c3 : w.cell? ⟨b, o + 3, none⟩ = some (.string ev)
  c4 : w.cell? ⟨b, o + 4, none⟩ = some (.slice a n c)
theorem elem_at {w : World} {S : Nat → Prop} {d : DepT} {b o : Nat} (h : ∃ cs', DepC w S d cs' ∧ CellsAt w b o cs') : ∃ k nm op ev a n c args, ElemAt w S d b o k nm op ev a n c args := by
  obtain ⟨cs, hd, hc⟩ := h
  cases d with
  | mk k nm op ev n args =>
    have hd' := hd
    obtain ⟨a, c, rfl, _⟩ := hd'
    exact ⟨k, nm, op, ev, a, n, c, args, rfl, hd, hc 0 _ rfl, hc 1 _ rfl, hc 2 _ rfl, hc 3 _ rfl, hc 4 _ rfl⟩
theorem ElemAt.below {w w' : World} {S : Nat → Prop} {d : DepT} {b o : Nat} {k : Int} {nm : ByteArray} {op : Int} {ev : ByteArray} {a : Option Addr} {n c : Nat} {args : Fin n → DepT} (h : ElemAt w S d b o k nm op ev a n c args) (hb : Below w.heap.size w w') : ElemAt w' S d b o k nm op ev a n c args :=
  ⟨h.is_, h.dep.below hb, cell_tr hb h.c0, cell_tr hb h.c1, cell_tr hb h.c2, cell_tr hb h.c3, cell_tr hb h.c4⟩
theorem wrap_sum (a b : Int) : wrap64 (wrap64 a + wrap64 b) = wrap64 (a + b) := by unfold wrap64; omega

end Go.Proofs.YtjcefgjgjhdbpaaDoor

