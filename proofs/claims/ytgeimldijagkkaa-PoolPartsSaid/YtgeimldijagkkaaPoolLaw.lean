/-
  A package's dependencies may be: what is asked. Helper text; the conditions are those typed.
-/
import Derived.Test.YtgeimldijagkkaaPoolMem
namespace Go.Proofs.Ytgeimldijagkkaa
set_option linter.unusedVariables false
set_option linter.unusedSimpArgs false
open Go.RowKit Go.Maps

def okList (p : PkgT) (i : Fin 7) : Bool := decide (p.n i ≤ 16) && (List.finRange (p.n i)).all fun j => depOk i (p.deps i j)
theorem depsB_no {p : PkgT} (i : Fin 7) (h : okList p i = false) : depsB p = false := by
  unfold depsB
  rw [List.all_eq_false]
  refine ⟨i, List.mem_finRange i, ?_⟩
  have : (decide (p.n i ≤ 16) && (List.finRange (p.n i)).all fun j => depOk i (p.deps i j)) = false := h
  rw [this]
  decide
theorem depsB_yes {p : PkgT} (h : ∀ j (hj : j < 7), okList p ⟨j, hj⟩ = true) : depsB p = true := by
  unfold depsB
  rw [List.all_eq_true]
  intro i _
  exact h i i.2
theorem okList_long {p : PkgT} (i : Fin 7) (h : 16 < (p.n i : Int)) : okList p i = false := by
  unfold okList
  rw [decide_eq_false (by omega)]
  rfl
theorem okList_bad {p : PkgT} (i : Fin 7) (j : Fin (p.n i)) (h : depOk i (p.deps i j) = false) : okList p i = false := by
  unfold okList
  rw [Bool.and_eq_false_iff]
  right
  rw [List.all_eq_false]
  exact ⟨j, List.mem_finRange j, by rw [h]; decide⟩
theorem okList_good {p : PkgT} (i : Fin 7) (h : ¬ 16 < (p.n i : Int)) (hj : ∀ j (h : j < p.n i), depOk i (p.deps i ⟨j, h⟩) = true) : okList p i = true := by
  unfold okList
  rw [decide_eq_true (by omega), Bool.true_and, List.all_eq_true]
  intro j _
  exact hj j j.2

/-- The ways of one dependency. -/
def Way (i : Nat) (k op q : Int) (x : Bool) : Prop :=
  (((i : Int) != 0) = true ∧ ((i : Int) != 4) = true ∧ ((i : Int) == 0) = false ∧ ((i : Int) == 4) = false ∧ (((q != 0) = true ∧ x = false) ∨ ((q != 0) = false ∧ x = true))) ∨
  (((i : Int) != 0) = true ∧ ((i : Int) != 4) = false ∧ ((i : Int) == 0) = false ∧ ((i : Int) == 4) = true ∧ (((k == 1) = false ∧ (k != 1) = true ∧ x = false) ∨ ((k == 1) = true ∧ (k != 1) = false ∧ (q != 0) = true ∧ x = false) ∨ ((k == 1) = true ∧ (k != 1) = false ∧ (q != 0) = false ∧ x = true))) ∨
  (((i : Int) != 0) = false ∧ ((i : Int) != 4) = true ∧ ((i : Int) == 0) = true ∧ ((i : Int) == 4) = false ∧ (((k == 1) = false ∧ (k != 1) = true ∧ x = false) ∨ ((k == 1) = true ∧ (k != 1) = false ∧ (q != 0) = true ∧ x = false) ∨ ((k == 1) = true ∧ (k != 1) = false ∧ (q != 0) = false ∧ (((op != 0) = false ∧ x = true) ∨ ((op != 0) = true ∧ (op != 2) = false ∧ x = true) ∨ ((op != 0) = true ∧ (op != 2) = true ∧ x = false)))))
theorem way_of (i : Nat) (d : DepT) : Way i d.kind d.op (depCheck d) (depOk i d) := by
  unfold depOk
  generalize depCheck d = q
  generalize d.kind = k
  generalize d.op = op
  unfold Way
  by_cases h0 : i = 0
  · subst h0
    refine .inr (.inr ⟨rfl, rfl, rfl, rfl, ?_⟩)
    by_cases hk : k = 1
    · by_cases hq : q = 0
      · right; right
        refine ⟨by simpa using hk, by simpa using hk, by simpa using hq, ?_⟩
        by_cases ho : op = 0
        · left; simp [hk, hq, ho]
        · right
          by_cases h2 : op = 2
          · left; simp [hk, hq, h2]
          · right; simp [hk, hq, ho, h2]
      · right; left; simp [hk, hq]
    · left; simp [hk]
  · by_cases h4 : i = 4
    · subst h4
      refine .inr (.inl ⟨rfl, rfl, rfl, rfl, ?_⟩)
      by_cases hk : k = 1
      · by_cases hq : q = 0
        · right; right; simp [hk, hq]
        · right; left; simp [hk, hq]
      · left; simp [hk]
    · have e0 : ((i : Int) == 0) = false := by simpa using h0
      have e4 : ((i : Int) == 4) = false := by
        have : ¬ (i : Int) = 4 := by omega
        simpa using this
      refine .inl ⟨by simpa using h0, ?_, e0, e4, ?_⟩
      · have : ¬ (i : Int) = 4 := by omega
        simpa using this
      · by_cases hq : q = 0
        · right; simp [h0, h4, hq]
        · left; simp [h0, h4, hq]

/-- One list of a package. -/
theorem list_ways {p : PkgT} {v : Fin 7 → Value} {vf : Value} {w : World} {S : Nat → Prop} (h : PkgV w S p v vf) (i : Fin 7) : ∃ n, ∃ args : Fin n → DepT, ∃ a c, v i = .slice a n c ∧ (n ≠ 0 → ∃ b off, a = some ⟨b, off, none⟩ ∧ S b ∧ ∀ i : Fin n, ∃ cs', DepC w S (args i) cs' ∧ CellsAt w b (off + i * 5) cs') ∧
    (16 < (n : Int) → okList p i = false) ∧ (∀ j, depOk i (args j) = false → okList p i = false) ∧ (¬ 16 < (n : Int) → (∀ j (h : j < n), depOk i (args ⟨j, h⟩) = true) → okList p i = true) := by
  obtain ⟨a, c, hv, hn, hd⟩ := h.deps i
  exact ⟨p.n i, p.deps i, a, c, hv, hd, okList_long i, okList_bad i, okList_good i⟩

theorem lists_at (b : Nat) {i : Nat} (h : i < 7) : (placesL b)[i]? = some (.pointer (some ⟨b, 4 + i, none⟩)) := by
  rcases i with _ | _ | _ | _ | _ | _ | _ | i
  · rfl
  · rfl
  · rfl
  · rfl
  · rfl
  · rfl
  · rfl
  · omega
theorem pkg_at (nm ev ar ve : ByteArray) (v : Fin 7 → Value) (vf : Value) {i : Nat} (h : i < 7) : (pkgCells nm ev ar ve v vf)[4 + i]? = some (v ⟨i, h⟩) := by
  rcases i with _ | _ | _ | _ | _ | _ | _ | i
  · rfl
  · rfl
  · rfl
  · rfl
  · rfl
  · rfl
  · rfl
  · omega
theorem listsL_at (v : Fin 7 → Value) {i : Nat} (h : i < 7) : (listsL v)[i]? = some (v ⟨i, h⟩) := by
  rcases i with _ | _ | _ | _ | _ | _ | _ | i
  · rfl
  · rfl
  · rfl
  · rfl
  · rfl
  · rfl
  · rfl
  · omega
end Go.Proofs.Ytgeimldijagkkaa
