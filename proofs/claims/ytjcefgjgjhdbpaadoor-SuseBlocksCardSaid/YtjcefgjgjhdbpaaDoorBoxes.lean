/-
  Boxes of three texts, what grows: helper text; no conditions beyond those typed.
-/
import Derived.Test.YtjcefgjgjhdbpaaDoorWalkC
namespace Go.Proofs.YtjcefgjgjhdbpaaDoor
set_option linter.unusedVariables false
set_option linter.unusedSimpArgs false
open Go.RowKit

theorem parse_some {s : ByteArray} (hs : s.size ≤ maxLen) {e v r : ByteArray} (h : parse (bs s) = some (bs e, bs v, bs r)) (w : World) :
    Calls Tryd.prog 49 #[.string s] w fun en w' => en = .returned (.tuple #[.agg #[.string e, .string v, .string r], .int .i64 0]) ∧ Below w.heap.size w w' := by
  have := parse_c s hs w
  rw [h] at this
  exact this.mono fun en w' ⟨h1, h2⟩ => ⟨by rw [h1, evrV_some]; rfl, h2⟩
theorem parse_none {s : ByteArray} (hs : s.size ≤ maxLen) (h : parse (bs s) = none) (w : World) :
    Calls Tryd.prog 49 #[.string s] w fun en w' => en = .returned (.tuple #[.agg #[.string ⟨#[]⟩, .string ⟨#[]⟩, .string ⟨#[]⟩], .int .i64 30]) ∧ Below w.heap.size w w' := by
  have := parse_c s hs w
  rw [h] at this
  exact this

theorem size_le {s : ByteArray} {a b : Nat} : (s.extract a b).size ≤ s.size := by
  rw [← bs_length, ← bs_length]
  show (s.extract a b).data.toList.length ≤ s.data.toList.length
  rw [Lib.extract_data, List.length_take, List.length_drop]
  omega
theorem bs_drop (s : ByteArray) (i : Nat) : bs (s.extract i s.size) = (bs s).drop i := Lib.extract_to_end s i
theorem alloc_at (w : World) (o : Obj) : (w.alloc o).heap[w.heap.size]? = some o := by
  unfold World.alloc
  simp
theorem below_al {B : Nat} {w w' : World} (h : Below B w w') (hB : B ≤ w.heap.size) (o : Obj) : Below B w (w'.alloc o) := h.alloc (Nat.le_trans hB h.size) o

theorem below_sc {B b : Nat} {w w' : World} (h : Below B w w') (hb : B ≤ b) (o : Nat) (v : Value) : Below B w (w'.setCell ⟨b, o, none⟩ v) := h.setCell (p := ⟨b, o, none⟩) hb v

/-- A box of three texts. -/
structure Box3 (W : World) (b : Nat) (x y z : ByteArray) : Prop where
  at_ : W.heap[b]? = some (.cells #[.string x, .string y, .string z] 74 (0, 0))
  c0 : W.cell? ⟨b, 0, none⟩ = some (.string x)
  c1 : W.cell? ⟨b, 1, none⟩ = some (.string y)
  c2 : W.cell? ⟨b, 2, none⟩ = some (.string z)
  f0 : W.frozen? ⟨b, 0, none⟩ = false
  f1 : W.frozen? ⟨b, 1, none⟩ = false
  f2 : W.frozen? ⟨b, 2, none⟩ = false
theorem Box3.of {W : World} {b : Nat} {x y z : ByteArray} (h : W.heap[b]? = some (.cells #[.string x, .string y, .string z] 74 (0, 0))) : Box3 W b x y z :=
  ⟨h, by unfold World.cell?; simp only [h]; rfl, by unfold World.cell?; simp only [h]; rfl, by unfold World.cell?; simp only [h]; rfl, by unfold World.frozen?; simp only [h]; rfl, by unfold World.frozen?; simp only [h]; rfl, by unfold World.frozen?; simp only [h]; rfl⟩
theorem Box3.lt {W : World} {b : Nat} {x y z : ByteArray} (h : Box3 W b x y z) : b < W.heap.size := World.block_lt_of_cell? W _ h.c0
theorem Box3.below {W W' : World} {b : Nat} {x y z : ByteArray} (h : Box3 W b x y z) (hb : Below W.heap.size W W') : Box3 W' b x y z := .of ((hb.block _ h.lt).trans h.at_)
theorem Box3.dr {W : World} {b : Nat} {x y z : ByteArray} (h : Box3 W b x y z) : Box3 W.drew b x y z := .of h.at_
theorem Box3.set {W : World} {b : Nat} {x y z : ByteArray} (h : Box3 W b x y z) (x' y' z' : ByteArray) : Box3 (((W.setCell ⟨b, 0, none⟩ (.string x')).setCell ⟨b, 1, none⟩ (.string y')).setCell ⟨b, 2, none⟩ (.string z')) b x' y' z' := by
  refine .of ?_
  have h := h.at_
  unfold World.setCell
  simp [Array.getElem?_modify, h]
theorem Box3.other {W : World} {b c o : Nat} {v : Value} {x y z : ByteArray} (h : Box3 W b x y z) (hc : c ≠ b) : Box3 (W.setCell ⟨c, o, none⟩ v) b x y z := by
  refine .of ?_
  have h := h.at_
  unfold World.setCell
  simp [Array.getElem?_modify, h, hc]
theorem boxes2 (w : World) (x y z x' y' z' : ByteArray) : Box3 ((w.alloc (.cells #[.string x, .string y, .string z] 74)).alloc (.cells #[.string x', .string y', .string z'] 74)) w.heap.size x y z ∧
    Box3 ((w.alloc (.cells #[.string x, .string y, .string z] 74)).alloc (.cells #[.string x', .string y', .string z'] 74)) (w.heap.size + 1) x' y' z' := by
  refine ⟨.of ?_, .of ?_⟩
  · rw [Below.heap_alloc _ _ _ (by simp)]
    exact alloc_at w _
  · have := alloc_at (w.alloc (.cells #[.string x, .string y, .string z] 74)) (.cells #[.string x', .string y', .string z'] 74)
    rwa [World.size_alloc] at this

end Go.Proofs.YtjcefgjgjhdbpaaDoor
