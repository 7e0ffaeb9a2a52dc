/-
  Clauses that hold by some values; what is preferred first. Plain; no program in sight.
-/
import Derived.Test.YtkeagjphddcjeaaSatTurn
namespace Go.Proofs.Ytkeagjphddcjeaa
set_option linter.unusedVariables false
set_option linter.unusedSimpArgs false
open Sat
/-- A clause turned so that it holds by v. -/
def plantC (v : Asg) (c : Cl) : Cl := if c.any (litB v) then c else match c with | [] => [] | x :: t => (-x) :: t
/-- What 'planted' makes. -/
def plantL (v : Asg) (ls : List Cl) : List Cl := (ls.map (plantC v)).filter fun c => !c.isEmpty
theorem plantL_take {v : Asg} {ls : List Cl} {i : Nat} {c : Cl} (h : ls[i]? = some c) : plantL v (ls.take (i + 1)) = plantL v (ls.take i) ++ (if (plantC v c).isEmpty then [] else [plantC v c]) := by
  have hi := (List.getElem?_eq_some_iff.1 h).1
  unfold plantL
  rw [List.take_succ_eq_append_getElem hi, List.map_append, List.filter_append, (List.getElem?_eq_some_iff.1 h).2]
  congr 1
  simp only [List.map_cons, List.map_nil]
  cases hp : plantC v c with
  | nil => rfl
  | cons x t => rfl
theorem plantL_len (v : Asg) (ls : List Cl) : (plantL v ls).length ≤ ls.length := by
  unfold plantL
  exact Nat.le_trans (List.length_filter_le _ _) (by rw [List.length_map]; exact Nat.le_refl _)
theorem plant_mem {v : Asg} {ls : List Cl} {d : Cl} (h : d ∈ plantL v ls) : ∃ c ∈ ls, d = plantC v c ∧ d ≠ [] := by
  unfold plantL at h
  rw [List.mem_filter] at h
  obtain ⟨h1, h2⟩ := h
  obtain ⟨c, hc, rfl⟩ := List.mem_map.1 h1
  exact ⟨c, hc, rfl, fun e => by rw [e] at h2; simp at h2⟩
theorem plantC_len (v : Asg) (c : Cl) : (plantC v c).length = c.length := by
  unfold plantC
  split
  · rfl
  · cases c <;> rfl
theorem plantC_ok {n : Nat} {v : Asg} {c : Cl} (h : ∀ x ∈ c, Lok n x) : ∀ x ∈ plantC v c, Lok n x := by
  unfold plantC
  split
  · exact h
  · cases c with
    | nil => exact h
    | cons x t =>
      intro y hy
      rcases List.mem_cons.1 hy with hy | hy
      · rw [hy]
        exact (h x (List.mem_cons_self ..)).neg
      · exact h y (List.mem_cons_of_mem _ hy)
theorem plant_sat {n : Nat} {v : Asg} {ls : List Cl} (h : ∀ c ∈ ls, ∀ x ∈ c, Lok n x) : sat v (plantL v ls) := fun d hd => by
  obtain ⟨c, hc, rfl, hne⟩ := plant_mem hd
  unfold plantC at hne ⊢
  split
  · rename_i ha
    rw [List.any_eq_true] at ha
    exact ha
  · rename_i ha
    rw [if_neg ha] at hne
    cases c with
    | nil => exact absurd rfl hne
    | cons x t =>
      refine ⟨-x, List.mem_cons_self .., ?_⟩
      have hx := h _ hc x (List.mem_cons_self ..)
      rw [litB_neg v hx.1]
      have : litB v x = false := by
        cases hb : litB v x with
        | false => rfl
        | true => exact absurd (List.any_eq_true.2 ⟨x, List.mem_cons_self .., hb⟩) ha
      rw [this]
      rfl
theorem best_first {n : Nat} {ls : List Cl} {p : Int} {pr : List Int} {v u : Asg} (h : Best n ls (p :: pr) v) (hp : Lok n p) (hu : sat u ls) (hl : litB u p = true) : litB v p = true := by
  cases hv : litB v p with
  | true => rfl
  | false =>
    have hne : v (vr p) ≠ u (vr p) := fun e => by
      unfold litB at hl hv
      rw [e] at hv
      rw [hv] at hl
      cases hl
    obtain ⟨i, g, h1, h2, h3, h4⟩ := h.2 u hu ⟨vr p, hp.lt, hne⟩
    have h0 : (gsOf n (p :: pr))[0]? = some p := rfl
    cases i with
    | zero =>
      rw [h0] at h1
      cases h1
      rw [hv] at h2
      cases h2
    | succ i =>
      have := h4 0 p (by omega) h0
      rw [hv, hl] at this
      cases this
end Go.Proofs.Ytkeagjphddcjeaa
