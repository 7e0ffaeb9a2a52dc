/-
  A slice of texts that came in. Helper text; the conditions are those typed.
-/
import Derived.Test.YtjcefgjgjhdbpaaDoorPoolLaw
import Derived.SizedLaws
import Derived.OpenShut
namespace Go.Proofs.YtjcefgjgjhdbpaaDoor
set_option linter.unusedVariables false
set_option linter.unusedSimpArgs false
open Go.ChangeShapes Go.WideShapes Go.RowKit Go.Maps

theorem bytes9 : Tryd.prog.bytesOf 9 = 16 := by kernel_rfl
section
variable {H : Type} {enc : TypeId × Value → H} {w : World} {sp : Nat → Bool} {held : Bool}
theorem open_text {fuel : Nat} {c : Value} {x : DataW H × List MemPlace} (h : DataW.trod enc Tryd.prog w 0 sp held fuel 9 [c] = some x) (hz : ∀ z ∈ x.1.weights Tryd.prog 9, z ≤ reachBytes) : ∃ s : ByteArray, c = .string s ∧ s.size ≤ maxLen ∧ s.size ≤ reachBytes := by
  obtain ⟨s, e, hx, h1⟩ := DataW.trod_string Tryd.underlying9 h
  simp only [List.cons.injEq, and_true] at e
  subst e
  refine ⟨s, rfl, h1, hz _ ?_⟩
  rw [hx]
  simp [DataW.weights]
theorem open_texts {fuel : Nat} {c : Value} {x : DataW H × List MemPlace} (h : DataW.trod enc Tryd.prog w 0 sp held fuel 29 [c] = some x) (hz : ∀ z ∈ x.1.weights Tryd.prog 29, z ≤ reachBytes) : ∃ l, StrsV w (· < w.heap.size) l c := by
  rcases DataW.trod_slice Tryd.underlying29 h with ⟨e, _⟩ | ⟨a, len, cap, elems, rest, m, hf, hcs, hx, _, hl, hm, hle, he, _, _⟩
  · simp only [List.cons.injEq, and_true] at e
    subst e
    exact ⟨[], none, 0, rfl, by simp, by decide, fun h => absurd rfl h⟩
  · simp only [List.cons.injEq, and_true] at hcs
    subst hcs
    have hw1 : (elems.length + rest.length) * 16 ≤ reachBytes := by
      have := hz ((elems.length + rest.length) * Tryd.prog.bytesOf 9) (by rw [hx]; simp [DataW.weights, Tryd.underlying29])
      rwa [bytes9] at this
    have hbulk : len * 16 ≤ 140737488355328 := by
      have : reachBytes = 140737488351232 := rfl
      omega
    have hone : ∀ i, i < len → ∃ s : ByteArray, s.size ≤ maxLen ∧ w.cell? (a.add i) = some (.string s) := by
      intro i hi
      have h1 := he i hi
      rw [cells9] at h1
      have hel : i < elems.length := by omega
      rw [List.getElem?_eq_getElem hel, Nat.mul_one] at h1
      cases hc : w.cells? 0 (a.add i) 1 with
      | none => rw [hc] at h1; cases h1
      | some cs =>
        rw [hc] at h1
        replace h1 : DataW.trod enc Tryd.prog w 0 sp held m 9 cs = some elems[i] := h1
        obtain ⟨_, hlen, hcell⟩ := World.cells?_some hc
        obtain ⟨s, e, _, h3⟩ := DataW.trod_string Tryd.underlying9 h1
        subst e
        refine ⟨s, h3, ?_⟩
        have := hcell (i := 0) (by omega)
        rw [Addr.add_add] at this
        exact this
    by_cases h0 : len = 0
    · subst h0
      exact ⟨[], some a, cap, rfl, by simp, by decide, fun h => absurd rfl h⟩
    · obtain ⟨b, off, ea, hb⟩ : ∃ b off, a = ⟨b, off, none⟩ ∧ b < w.heap.size := by
        obtain ⟨s, _, hc⟩ := hone 0 (by omega)
        exact spot_none hc rfl
      subst ea
      have hone' : ∀ i, i < len → ∃ s : ByteArray, s.size ≤ maxLen ∧ w.cell? ⟨b, off + i, none⟩ = some (.string s) := fun i hi => by
        obtain ⟨s, h1, h2⟩ := hone i hi
        exact ⟨s, h1, by rwa [addr_add] at h2⟩
      refine ⟨(List.finRange len).map (fun i : Fin len => (hone' i.val i.2).choose), some ⟨b, off, none⟩, cap, by simp, ?_, by simpa using hbulk, fun _ => ⟨b, off, rfl, hb, fun i hi => ?_⟩⟩
      · intro s hs
        obtain ⟨i, _, rfl⟩ := List.mem_map.1 hs
        exact (hone' i.val i.2).choose_spec.1
      · have hi' : i < len := by simpa using hi
        have := (hone' i hi').choose_spec.2
        simpa using this
end
end Go.Proofs.YtjcefgjgjhdbpaaDoor
