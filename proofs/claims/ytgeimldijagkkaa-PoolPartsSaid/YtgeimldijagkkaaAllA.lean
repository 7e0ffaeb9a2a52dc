/-
  The names of a dependency, counted: the contract. Helper text; the conditions are those typed.
-/
import Derived.Test.YtgeimldijagkkaaFormC
namespace Go.Proofs.Ytgeimldijagkkaa
set_option linter.unusedVariables false
set_option linter.unusedSimpArgs false
open Go.RowKit Go.Maps

/-- Only the counter's cell is another, of what was there. -/
structure Ticked (b : Nat) (z : Int) (w w' : World) : Prop where
  os : w'.os = w.os
  tape : w'.tape = w.tape
  output : w'.output = w.output
  size : w.heap.size ≤ w'.heap.size
  block : ∀ k, k < w.heap.size → k ≠ b → w'.heap[k]? = w.heap[k]?
  at_ : w'.heap[b]? = some (.cells #[.int .i64 z] 3 (0, 0))

theorem tick_c (s : ByteArray) (b : Nat) (z : Int) (W : World) (h : W.heap[b]? = some (.cells #[.int .i64 z] 3 (0, 0))) :
    Calls Try.prog 78 #[.string s, .pointer (some ⟨b, 0, none⟩)] W fun e w' => e = .returned (.tuple #[]) ∧ Ticked b (wrap64 (z + 1)) W w' := by
  have p0 : W.cell? ⟨b, 0, none⟩ = some (.int .i64 z) := by unfold World.cell?; simp only [h]; rfl
  have f0 : W.frozen? ⟨b, 0, none⟩ = false := by unfold World.frozen?; simp only [h]; rfl
  have H := Lib.hid h
  clear h
  go_enter Try.func78, Try.ntmps78
  go_wp2_with fail
  refine bodyPost_end (v := .tuple #[]) (by simp [results, Try.results78, go_sem]) rfl ⟨rfl, rfl, rfl, rfl, ?_, ?_, ?_⟩
  · simp
  · intro k hk hne
    unfold World.setCell
    simp [Array.getElem?_modify, Ne.symm hne]
  · have h := H.out
    unfold World.setCell
    simp [Array.getElem?_modify, h]
end Go.Proofs.Ytgeimldijagkkaa
