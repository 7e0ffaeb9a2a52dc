/-
  A clause more. Plain; no program in sight.
-/
import Derived.Test.YtkeagjphddcjeaaSatTurn
namespace Go.Proofs.Ytkeagjphddcjeaa
set_option linter.unusedVariables false
set_option linter.unusedSimpArgs false
open Sat
theorem sat_more {v : Asg} {ls : List Cl} {c : Cl} : sat v (ls ++ [c]) ↔ sat v ls ∧ holds v c := by
  unfold sat
  constructor
  · intro h
    exact ⟨fun d hd => h d (List.mem_append_left _ hd), h c (List.mem_append_right _ (List.mem_singleton.2 rfl))⟩
  · rintro ⟨h, k⟩ d hd
    rcases List.mem_append.1 hd with hd | hd
    · exact h d hd
    · rw [List.mem_singleton.1 hd]
      exact k
theorem best_more {n : Nat} {ls : List Cl} {c : Cl} {pr : List Int} {v u : Asg} (h : Best n ls pr v) (hc : holds v c) (k : Best n (ls ++ [c]) pr u) : bsOf n v = bsOf n u := by
  have h' : Best n (ls ++ [c]) pr v := ⟨sat_more.2 ⟨h.1, hc⟩, fun x hx => h.2 x (sat_more.1 hx).1⟩
  unfold bsOf
  exact List.map_congr_left fun i hi => Best.unique h' k i (List.mem_range.1 hi)
end Go.Proofs.Ytkeagjphddcjeaa
