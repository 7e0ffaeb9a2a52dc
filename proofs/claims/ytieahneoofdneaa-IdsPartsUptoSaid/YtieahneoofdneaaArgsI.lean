/-
  Slices of integers that came in. Helper text; no conditions beyond those typed.
-/
import Derived.Test.YtieahneoofdneaaArgs
import Derived.Test.YtieahneoofdneaaWalkG
namespace Go.Proofs.Ytieahneoofdneaa
set_option linter.unusedVariables false
set_option linter.unusedSimpArgs false
open Go.ChangeShapes Go.WideShapes Go.ChangeAt Go.RowKit

theorem cutI_of {H : Type} {enc : TypeId × Value → H} {w : World} {base : Nat} {sp : Nat → Bool} {held : Bool} {a : Option Addr} {len cap : Nat} {d : DataW H} {p : List MemPlace}
    (h : DataW.Trod enc Try.prog w base sp held 34 (.slice a len cap) d p) : ∃ l : List Int, CutI w a len cap l := by
  obtain ⟨zs, hl, _, hin⟩ := intsIn_of Try.underlying34 Try.underlying3 (by kernel_rfl) h
  obtain ⟨fuel, hf⟩ := h
  have hcap : len ≤ cap ∧ cap ≤ maxLen := by
    rcases DataW.trod_slice Try.underlying34 hf with ⟨hcs, _⟩ | ⟨x, l, c, elems, rest, n, _, hcs, _, _, hl, hm, _⟩
    · simp [Value.cells] at hcs
      obtain ⟨rfl, rfl, rfl⟩ := hcs
      exact ⟨Nat.le_refl _, Nat.zero_le _⟩
    · simp [Value.cells] at hcs
      obtain ⟨rfl, rfl, rfl⟩ := hcs
      exact ⟨hl, hm⟩
  refine ⟨zs, hl.symm, ?_, hcap.1, hcap.2⟩
  rcases hin with h0 | ⟨b, off, e, _, hc⟩
  · exact .inl h0
  · exact .inr ⟨b, off, e, hc⟩
end Go.Proofs.Ytieahneoofdneaa
