/-
  Clauses turned about: the same values. Plain; no program in sight.
-/
import Derived.Test.YtkeagjphddcjeaaSolO
namespace Go.Proofs.Ytkeagjphddcjeaa
set_option linter.unusedVariables false
set_option linter.unusedSimpArgs false
open Sat
/-- Behind m rounds, from the last clause on. -/
def turnL (ls : List Cl) : Nat → List Cl
  | 0 => []
  | m + 1 => turnL ls m ++ [ls.getD (ls.length - 1 - m) [] ++ ls.getD (ls.length - 1 - m) [], ls.getD (ls.length - 1 - m) []]
theorem turnL_len (ls : List Cl) : ∀ m, (turnL ls m).length = 2 * m
  | 0 => rfl
  | m + 1 => by
    unfold turnL
    rw [List.length_append, turnL_len ls m]
    simp
    omega
theorem turnL_mem {ls : List Cl} {c : Cl} : ∀ {m : Nat}, m ≤ ls.length → c ∈ turnL ls m → ∃ d ∈ ls, c = d ++ d ∨ c = d
  | 0, _, h => by cases h
  | m + 1, hm, h => by
    have hd : ls.getD (ls.length - 1 - m) [] ∈ ls := by
      rw [List.getD, List.getElem?_eq_getElem (by omega)]
      exact List.getElem_mem _
    rcases List.mem_append.1 h with h | h
    · exact turnL_mem (by omega) h
    · simp only [List.mem_cons, List.not_mem_nil, or_false] at h
      exact ⟨_, hd, h⟩
theorem turnL_has {ls : List Cl} : ∀ {m : Nat}, m ≤ ls.length → ∀ i, ls.length - m ≤ i → (h : i < ls.length) → ls[i] ∈ turnL ls m
  | 0, _, i, h1, h2 => by omega
  | m + 1, hm, i, h1, h2 => by
    by_cases e : i = ls.length - 1 - m
    · refine List.mem_append_right _ ?_
      rw [← e]
      simp [List.getD, List.getElem?_eq_getElem h2]
    · exact List.mem_append_left _ (turnL_has (by omega) i (by omega) h2)
theorem holds_two {v : Asg} {d : Cl} : holds v (d ++ d) ↔ holds v d := by
  unfold holds
  simp
theorem turn_sat {ls : List Cl} {v : Asg} : sat v (turnL ls ls.length) ↔ sat v ls := by
  constructor
  · intro h c hc
    obtain ⟨i, hi, rfl⟩ := List.getElem_of_mem hc
    exact h _ (turnL_has (Nat.le_refl _) i (by omega) hi)
  · intro h c hc
    obtain ⟨d, hd, h1 | h1⟩ := turnL_mem (Nat.le_refl _) hc
    · rw [h1, holds_two]
      exact h d hd
    · rw [h1]
      exact h d hd
theorem best_turn {n : Nat} {ls : List Cl} {pr : List Int} {u : Asg} (h : Best n (turnL ls ls.length) pr u) : Best n ls pr u := ⟨turn_sat.1 h.1, fun v hv => h.2 v (turn_sat.2 hv)⟩
theorem turn_same {n : Nat} {ls : List Cl} {pr : List Int} {v u : Asg} (h : Best n ls pr v) (k : Best n (turnL ls ls.length) pr u) : bsOf n v = bsOf n u := by
  unfold bsOf
  exact List.map_congr_left fun i hi => Best.unique h (best_turn k) i (List.mem_range.1 hi)
theorem turn_ok {n : Nat} {ls : List Cl} (h : ∀ c ∈ ls, ∀ x ∈ c, Lok n x) : ∀ c ∈ turnL ls ls.length, ∀ x ∈ c, Lok n x := fun c hc x hx => by
  obtain ⟨d, hd, h1 | h1⟩ := turnL_mem (Nat.le_refl _) hc
  · rw [h1] at hx
    rcases List.mem_append.1 hx with hx | hx
    · exact h d hd x hx
    · exact h d hd x hx
  · rw [h1] at hx
    exact h d hd x hx
theorem turn_short {ls : List Cl} {k : Nat} (h : ∀ c ∈ ls, c.length ≤ k) : ∀ c ∈ turnL ls ls.length, c.length ≤ k + k := fun c hc => by
  obtain ⟨d, hd, h1 | h1⟩ := turnL_mem (Nat.le_refl _) hc
  · have := h d hd
    rw [h1, List.length_append]
    omega
  · have := h d hd
    rw [h1]
    omega
end Go.Proofs.Ytkeagjphddcjeaa
