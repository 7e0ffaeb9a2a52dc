/-
  Rows of rows, and rows of integers, that came in, with their sizes. Helper text; no conditions beyond those typed.
-/
import Derived.Test.YtkeagjphddcjeaaArgsS
import Derived.SizedLaws
namespace Go.Proofs.Ytkeagjphddcjeaa
set_option linter.unusedVariables false
set_option linter.unusedSimpArgs false
open Go.ChangeShapes Go.WideShapes Go.ChangeAt Go.RowKit Go.Deep

theorem bytes24 : Try.prog.bytesOf 24 = 24 := by kernel_rfl
theorem bytes3 : Try.prog.bytesOf 3 = 8 := by kernel_rfl
theorem mem_weightsAll {H : Type} {P : Program} {e : TypeId} : ∀ {l : List (DataW H)} {d : DataW H}, d ∈ l → ∀ z ∈ d.weights P e, z ∈ DataW.weightsAll P e l
  | x :: l, d, h, z, hz => by
    simp only [DataW.weightsAll]
    rcases List.mem_cons.1 h with h | h
    · rw [← h]
      exact List.mem_append_left _ hz
    · exact List.mem_append_right _ (mem_weightsAll h z hz)
  | [], d, h, z, hz => by cases h
theorem ints_sized {H : Type} {enc : TypeId × Value → H} {w : World} {base : Nat} {sp : Nat → Bool} {held : Bool} {a : Option Addr} {len cap : Nat} {d : DataW H} {p : List MemPlace}
    (h : DataW.Trod enc Try.prog w base sp held 24 (.slice a len cap) d p) (hz : ∀ z ∈ d.weights Try.prog 24, z ≤ reachBytes) : len * 8 ≤ 140737488351232 := by
  obtain ⟨fuel, hf⟩ := h
  rcases DataW.trod_slice Try.underlying24 hf with ⟨hcs, _⟩ | ⟨x, l, c, elems, rest, n, _, hcs, hx, _, hl, hm, hle, _⟩
  · simp [Value.cells] at hcs
    obtain ⟨rfl, rfl, rfl⟩ := hcs
    omega
  · simp [Value.cells] at hcs
    obtain ⟨rfl, rfl, rfl⟩ := hcs
    have hd : d = .slice (elems.map (·.1)) (rest.map (·.1)) := congrArg Prod.fst hx
    have h1 := hz ((elems.length + rest.length) * Try.prog.bytesOf 3) (by rw [hd]; simp [DataW.weights, Try.underlying24])
    rw [bytes3] at h1
    have : reachBytes = 140737488351232 := rfl
    omega
theorem rows_sized {H : Type} {enc : TypeId × Value → H} {w : World} {base : Nat} {held : Bool} {a : Option Addr} {len cap : Nat} {d : DataW H} {p : List MemPlace}
    (h : DataW.Trod enc Try.prog w base (fun _ => true) held 23 (.slice a len cap) d p) (hz : ∀ z ∈ d.weights Try.prog 23, z ≤ reachBytes) : ∃ ls : List (List Int), ls.length = len ∧ len * 24 ≤ 140737488351232 ∧ RowsV w (.slice a len cap) ls ∧ ∀ l ∈ ls, l.length * 8 ≤ 140737488351232 := by
  obtain ⟨fuel, hf⟩ := h
  rcases open_int_rows Try.underlying23 Try.underlying24 Try.underlying3 (by kernel_rfl) (by kernel_rfl) hf with ⟨hcs, _⟩ | ⟨x, len', cap', A, L, C, Z, hcs, _, hl, hm, hx, hrow⟩
  · simp [Value.cells] at hcs
    obtain ⟨rfl, rfl, rfl⟩ := hcs
    exact ⟨[], rfl, Nat.zero_le _, ⟨none, 0, fun _ => .slice none 0 0, rfl, Nat.le_refl _, .inl rfl, fun i l h => by simp at h⟩, fun c (hc : c ∈ ([] : List (List Int))) => by cases hc⟩
  · simp [Value.cells] at hcs
    obtain ⟨rfl, rfl, rfl⟩ := hcs
    have hlen : ((List.range len).map fun r => (Z r).take (L r)).length = len := by simp
    have hget : ∀ i l, ((List.range len).map fun r => (Z r).take (L r))[i]? = some l → i < len ∧ l = (Z i).take (L i) := fun i l hl => by
      have h1 := (List.getElem?_eq_some_iff.1 hl).1
      simp at h1
      simp [h1] at hl
      exact ⟨h1, hl.symm⟩
    have hmem : ∀ l ∈ ((List.range len).map fun r => (Z r).take (L r)), ∃ r, r < len ∧ l = (Z r).take (L r) := fun l hl => by
      obtain ⟨r, hr, rfl⟩ := List.mem_map.1 hl
      exact ⟨r, List.mem_range.1 hr, rfl⟩
    have hd : d = .slice ((List.range len).map fun r => intRow .i64 (A r) (L r) (Z r)) ((List.range (cap - len)).map fun j => intRow .i64 (A (len + j)) (L (len + j)) (Z (len + j))) := congrArg Prod.fst hx
    have hw1 : len * 24 ≤ 140737488351232 := by
      have h1 := hz ((((List.range len).map fun r => intRow (H := H) .i64 (A r) (L r) (Z r)).length + ((List.range (cap - len)).map fun j => intRow (H := H) .i64 (A (len + j)) (L (len + j)) (Z (len + j))).length) * Try.prog.bytesOf 24) (by
        rw [hd]
        simp [DataW.weights, Try.underlying23])
      rw [bytes24, List.length_map, List.length_map, List.length_range, List.length_range] at h1
      have : reachBytes = 140737488351232 := rfl
      omega
    have hw2 : ∀ r, r < len → L r * 8 ≤ 140737488351232 := fun r hr => by
      obtain ⟨_, h1, h2, h3, h4, h5, h6⟩ := hrow r (by omega)
      cases hA : A r with
      | none =>
        have := h5 hA
        omega
      | some x' =>
        have h7 := hz ((Z r).length * 8) (by
          rw [hd]
          simp only [DataW.weights, Try.underlying23]
          refine List.mem_cons_of_mem _ (List.mem_append_left _ (mem_weightsAll (d := intRow .i64 (A r) (L r) (Z r)) (List.mem_map.2 ⟨r, List.mem_range.2 hr, rfl⟩) _ ?_))
          unfold intRow
          rw [hA]
          simp only [DataW.weights, Try.underlying24, bytes3]
          refine List.mem_cons.2 (.inl ?_)
          congr 1
          unfold lits
          rw [List.length_map, List.length_map, List.length_take, List.length_drop]
          omega)
        have : reachBytes = 140737488351232 := rfl
        omega
    refine ⟨(List.range len).map fun r => (Z r).take (L r), hlen, hw1, ⟨some x, cap, fun r => .slice (A r) (L r) (C r), by rw [hlen], by omega, ?_, fun i l hil => ?_⟩, fun c hc => ?_⟩
    · by_cases h0 : len = 0
      · left
        subst h0
        rfl
      · right
        obtain ⟨b, off, spot⟩ := x
        have hc0 := (hrow 0 (by omega)).1
        have hspot : spot = none := by simpa [Addr.add] using World.cell?_spot hc0
        subst hspot
        have hb : b < w.heap.size := by
          have := World.block_lt_of_cell? w _ hc0
          simpa [Addr.add] using this
        refine ⟨b, off, rfl, hb, fun i hi => ?_⟩
        rw [hlen] at hi
        have := (hrow i (by omega)).1
        rw [add_none] at this
        exact this
    · obtain ⟨hi, rfl⟩ := hget i l hil
      obtain ⟨_, h1, h2, h3, h4, h5, h6⟩ := hrow i (by omega)
      have hlz : ((Z i).take (L i)).length = L i := by simp; omega
      refine ⟨A i, C i, by rw [hlz], by omega, ?_⟩
      by_cases h0 : L i = 0
      · left
        rw [h0]
        rfl
      · right
        cases hA : A i with
        | none => have := h5 hA; omega
        | some x' =>
          obtain ⟨_, h7⟩ := h6 x' hA
          obtain ⟨b, off, spot⟩ := x'
          have hc0 := h7 0 (by omega)
          have hspot : spot = none := by simpa [Addr.add] using World.cell?_spot hc0
          subst hspot
          have hb : b < w.heap.size := by
            have := World.block_lt_of_cell? w _ hc0
            simpa [Addr.add] using this
          refine ⟨b, off, rfl, hb, fun j hj => ?_⟩
          rw [hlz] at hj
          have := h7 j (by omega)
          rw [add_none] at this
          rw [this]
          congr 2
          simp [List.getD, hj]
    · obtain ⟨r, hr, rfl⟩ := hmem c hc
      have h1 := hw2 r hr
      have := List.length_take_le (L r) (Z r)
      omega
end Go.Proofs.Ytkeagjphddcjeaa
