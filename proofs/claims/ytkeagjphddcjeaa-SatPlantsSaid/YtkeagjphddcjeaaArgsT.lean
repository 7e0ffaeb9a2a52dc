/-
  Rows of values that came in. Helper text; no conditions beyond those typed.
-/
import Derived.Test.YtkeagjphddcjeaaArgsS
import Derived.Deep.Grids
namespace Go.Proofs.Ytkeagjphddcjeaa
set_option linter.unusedVariables false
set_option linter.unusedSimpArgs false
open Go.ChangeShapes Go.WideShapes Go.ChangeAt Go.RowKit Go.Deep Sat

theorem bools_arg {H : Type} {enc : TypeId × Value → H} {w : World} {base : Nat} {held : Bool} {a : Option Addr} {len cap : Nat} {d : DataW H} {p : List MemPlace}
    (h : DataW.Trod enc Try.prog w base (fun _ => true) held 28 (.slice a len cap) d p) : ∃ v : Asg, len ≤ maxLen ∧ BoolsV w (.slice a len cap) (bsOf len v) := by
  obtain ⟨fuel, hf⟩ := h
  rcases open_bools Try.underlying28 Try.underlying4 (by kernel_rfl) hf with ⟨hcs, _⟩ | ⟨x, len', cap', B, hcs, _, hl, hm, _, hcell⟩
  · simp [Value.cells] at hcs
    obtain ⟨rfl, rfl, rfl⟩ := hcs
    exact ⟨fun _ => false, Nat.zero_le _, BoolsV.nil w⟩
  · simp [Value.cells] at hcs
    obtain ⟨rfl, rfl, rfl⟩ := hcs
    refine ⟨B, Nat.le_trans hl hm, some x, cap, by rw [bsOf_len], by rw [bsOf_len]; omega, ?_⟩
    by_cases h0 : len = 0
    · left
      subst h0
      rfl
    · right
      obtain ⟨b, off, spot⟩ := x
      have hc0 := hcell 0 (by omega)
      have hspot : spot = none := by simpa [Addr.add] using World.cell?_spot hc0
      subst hspot
      have hb : b < w.heap.size := by
        have := World.block_lt_of_cell? w _ hc0
        simpa [Addr.add] using this
      refine ⟨b, off, rfl, hb, fun i hi => ?_⟩
      rw [bsOf_len] at hi
      have := hcell i (by omega)
      rw [add_none] at this
      rw [this, bsOf_get _ _ hi]
end Go.Proofs.Ytkeagjphddcjeaa
