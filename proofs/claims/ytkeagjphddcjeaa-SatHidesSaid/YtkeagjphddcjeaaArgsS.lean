/-
  Rows of integers, and rows of rows, that came in. Helper text; no conditions beyond those typed.
-/
import Derived.Test.YtkeagjphddcjeaaArgs
import Derived.Test.YtkeagjphddcjeaaSolR
import Derived.Deep.Matrix
namespace Go.Proofs.Ytkeagjphddcjeaa
set_option linter.unusedVariables false
set_option linter.unusedSimpArgs false
open Go.ChangeShapes Go.WideShapes Go.ChangeAt Go.RowKit Go.Deep

theorem ints_of {H : Type} {enc : TypeId × Value → H} {w : World} {base : Nat} {sp : Nat → Bool} {held : Bool} {a : Option Addr} {len cap : Nat} {d : DataW H} {p : List MemPlace}
    (h : DataW.Trod enc Try.prog w base sp held 24 (.slice a len cap) d p) : ∃ zs : List Int, zs.length = len ∧ len ≤ maxLen ∧ IntsV w (.slice a len cap) zs ∧ ∀ z ∈ zs, -9223372036854775808 ≤ z ∧ z < 9223372036854775808 := by
  obtain ⟨zs, hl, hwf, hin⟩ := intsIn_of Try.underlying24 Try.underlying3 (by kernel_rfl) h
  obtain ⟨fuel, hf⟩ := h
  have hcap : len ≤ cap ∧ cap ≤ maxLen := by
    rcases DataW.trod_slice Try.underlying24 hf with ⟨hcs, _⟩ | ⟨x, l, c, elems, rest, n, _, hcs, _, _, hl, hm, _⟩
    · simp [Value.cells] at hcs
      obtain ⟨rfl, rfl, rfl⟩ := hcs
      exact ⟨Nat.le_refl _, Nat.zero_le _⟩
    · simp [Value.cells] at hcs
      obtain ⟨rfl, rfl, rfl⟩ := hcs
      exact ⟨hl, hm⟩
  exact ⟨zs, hl, Nat.le_trans hcap.1 hcap.2, ⟨a, cap, by rw [hl], by omega, hin⟩, fun z hz => rng64 (hwf z hz)⟩
theorem rows_of {H : Type} {enc : TypeId × Value → H} {w : World} {base : Nat} {held : Bool} {a : Option Addr} {len cap : Nat} {d : DataW H} {p : List MemPlace}
    (h : DataW.Trod enc Try.prog w base (fun _ => true) held 23 (.slice a len cap) d p) : ∃ ls : List (List Int), ls.length = len ∧ len ≤ maxLen ∧ RowsV w (.slice a len cap) ls ∧ Rng ls ∧ ∀ l ∈ ls, l.length ≤ maxLen := by
  obtain ⟨fuel, hf⟩ := h
  rcases open_int_rows Try.underlying23 Try.underlying24 Try.underlying3 (by kernel_rfl) (by kernel_rfl) hf with ⟨hcs, _⟩ | ⟨x, len', cap', A, L, C, Z, hcs, _, hl, hm, _, hrow⟩
  · simp [Value.cells] at hcs
    obtain ⟨rfl, rfl, rfl⟩ := hcs
    exact ⟨[], rfl, Nat.zero_le _, ⟨none, 0, fun _ => .slice none 0 0, rfl, Nat.le_refl _, .inl rfl, fun i l h => by simp at h⟩, (fun c (hc : c ∈ ([] : List (List Int))) => by cases hc), fun c (hc : c ∈ ([] : List (List Int))) => by cases hc⟩
  · simp [Value.cells] at hcs
    obtain ⟨rfl, rfl, rfl⟩ := hcs
    have hlen : ((List.range len).map fun r => (Z r).take (L r)).length = len := by simp
    have hget : ∀ i l, ((List.range len).map fun r => (Z r).take (L r))[i]? = some l → i < len ∧ l = (Z i).take (L i) := fun i l hl => by
      have h1 := (List.getElem?_eq_some_iff.1 hl).1
      simp at h1
      simp [h1] at hl
      exact ⟨h1, hl.symm⟩
    have hmem : ∀ l ∈ ((List.range len).map fun r => (Z r).take (L r)), ∃ r, r < len ∧ l = (Z r).take (L r) := fun l hl => by
      obtain ⟨r, hr, rfl⟩ := List.mem_map.1 hl
      exact ⟨r, List.mem_range.1 hr, rfl⟩
    refine ⟨(List.range len).map fun r => (Z r).take (L r), hlen, Nat.le_trans hl hm, ⟨some x, cap, fun r => .slice (A r) (L r) (C r), by rw [hlen], by omega, ?_, fun i l hil => ?_⟩, fun c hc y hy => ?_, fun c hc => ?_⟩
    · by_cases h0 : len = 0
      · left
        subst h0
        rfl
      · right
        obtain ⟨b, off, spot⟩ := x
        have hc0 := (hrow 0 (by omega)).1
        have hspot : spot = none := by simpa [Addr.add] using World.cell?_spot hc0
        subst hspot
        have hb : b < w.heap.size := by
          have := World.block_lt_of_cell? w _ hc0
          simpa [Addr.add] using this
        refine ⟨b, off, rfl, hb, fun i hi => ?_⟩
        rw [hlen] at hi
        have := (hrow i (by omega)).1
        rw [add_none] at this
        exact this
    · obtain ⟨hi, rfl⟩ := hget i l hil
      obtain ⟨_, h1, h2, h3, h4, h5, h6⟩ := hrow i (by omega)
      have hlz : ((Z i).take (L i)).length = L i := by simp; omega
      refine ⟨A i, C i, by rw [hlz], by omega, ?_⟩
      by_cases h0 : L i = 0
      · left
        rw [h0]
        rfl
      · right
        cases hA : A i with
        | none => have := h5 hA; omega
        | some x' =>
          obtain ⟨_, h7⟩ := h6 x' hA
          obtain ⟨b, off, spot⟩ := x'
          have hc0 := h7 0 (by omega)
          have hspot : spot = none := by simpa [Addr.add] using World.cell?_spot hc0
          subst hspot
          have hb : b < w.heap.size := by
            have := World.block_lt_of_cell? w _ hc0
            simpa [Addr.add] using this
          refine ⟨b, off, rfl, hb, fun j hj => ?_⟩
          rw [hlz] at hj
          have := h7 j (by omega)
          rw [add_none] at this
          rw [this]
          congr 2
          simp [List.getD, hj]
    · obtain ⟨r, hr, rfl⟩ := hmem c hc
      exact rng64 ((hrow r (by omega)).2.2.2.2.1 y (List.mem_of_mem_take hy))
    · obtain ⟨r, hr, rfl⟩ := hmem c hc
      have h1 := (hrow r (by omega)).2.2.1
      have h2 := (hrow r (by omega)).2.2.2.1
      have := List.length_take_le' (L r) (Z r)
      omega
end Go.Proofs.Ytkeagjphddcjeaa
