/-
  What rpm's step does, case by case: plain laws. Helper text; the conditions are those typed.
-/
import Derived.Test.YtgggbjkgpjcklaaDoorEvrOrd
import Derived.Test.YtgggbjkgpjcklaaDoorWalkF
namespace Go.Proofs.YtgggbjkgpjcklaaDoor
set_option linter.unusedVariables false
set_option linter.unusedSimpArgs false
open Go.RowKit

theorem hd_cons (c x : UInt8) (l : List UInt8) : hd c (x :: l) = decide (x = c) := rfl
theorem rpmS_two {p q : List UInt8} (h1 : hd 126 p = true) (h2 : hd 126 q = true) : rpmS p q = rpmT p.tail q.tail := by
  cases p with
  | nil => cases h1
  | cons x p =>
    cases q with
    | nil => cases h2
    | cons y q =>
      rw [hd_cons, decide_eq_true_iff] at h1 h2
      simp only [rpmS]
      rw [if_pos ⟨h1, h2⟩]
      rfl
theorem rpmS_tilde {p q : List UInt8} (h : ¬ (hd 126 p = true ∧ hd 126 q = true)) (h' : hd 126 p = true ∨ hd 126 q = true) : rpmS p q = if hd 126 p && !hd 126 q then -1 else if hd 126 q && !hd 126 p then -(-1) else 0 := by
  cases p with
  | nil =>
    cases q with
    | nil => rcases h' with h' | h' <;> cases h'
    | cons y q =>
      rw [hd_cons] at h' ⊢
      rcases h' with h' | h'
      · cases h'
      · rw [decide_eq_true_iff] at h'
        subst h'
        rfl
  | cons x p =>
    cases q with
    | nil =>
      rw [hd_cons] at h' ⊢
      rcases h' with h' | h'
      · rw [decide_eq_true_iff] at h'
        subst h'
        rfl
      · cases h'
    | cons y q =>
      simp only [hd_cons, decide_eq_true_iff] at h h' ⊢
      simp only [rpmS]
      rw [if_neg h]
      by_cases hx : x = 126
      · have hy : y ≠ 126 := fun e => h ⟨hx, e⟩
        rw [if_pos hx]
        simp [hx, hy]
      · have hy : y = 126 := h'.resolve_left hx
        rw [if_neg hx, if_pos hy]
        simp [hx, hy]
theorem rpmS_caret2 {p q : List UInt8} (h1 : hd 126 p = false) (h2 : hd 126 q = false) (h3 : hd 94 p = true) (h4 : hd 94 q = true) : rpmS p q = rpmT p.tail q.tail := by
  cases p with
  | nil => cases h3
  | cons x p =>
    cases q with
    | nil => cases h4
    | cons y q =>
      rw [hd_cons, decide_eq_true_iff] at h3 h4
      rw [hd_cons, decide_eq_false_iff_not] at h1 h2
      simp only [rpmS]
      rw [if_neg (fun h => h1 h.1), if_neg h1, if_neg h2, if_pos ⟨h3, h4⟩]
      rfl
theorem rpmS_caretE {p q : List UInt8} (h1 : hd 126 p = false) (h2 : hd 126 q = false) (h' : hd 94 p = true ∨ hd 94 q = true) (he : p = [] ∨ q = []) :
    rpmS p q = if hd 94 p && !hd 94 q then 1 else if hd 94 q && !hd 94 p then -1 else 0 := by
  cases p with
  | nil =>
    cases q with
    | nil => rcases h' with h' | h' <;> cases h'
    | cons y q =>
      rw [hd_cons] at h' h2 ⊢
      rcases h' with h' | h'
      · cases h'
      · rw [decide_eq_true_iff] at h'
        subst h'
        rfl
  | cons x p =>
    cases q with
    | nil =>
      rw [hd_cons] at h' h1 ⊢
      rcases h' with h' | h'
      · rw [decide_eq_true_iff] at h'
        subst h'
        rfl
      · cases h'
    | cons y q => rcases he with he | he <;> cases he
theorem rpmS_caretN {p q : List UInt8} (h1 : hd 126 p = false) (h2 : hd 126 q = false) (h : ¬ (hd 94 p = true ∧ hd 94 q = true)) (h' : hd 94 p = true ∨ hd 94 q = true) (hp : p ≠ []) (hq : q ≠ []) :
    rpmS p q = if hd 94 p && !hd 94 q then -1 else if hd 94 q && !hd 94 p then -(-1) else 0 := by
  cases p with
  | nil => exact absurd rfl hp
  | cons x p =>
    cases q with
    | nil => exact absurd rfl hq
    | cons y q =>
      simp only [hd_cons, decide_eq_true_iff, decide_eq_false_iff_not] at h h' h1 h2 ⊢
      simp only [rpmS]
      rw [if_neg (fun h => h1 h.1), if_neg h1, if_neg h2, if_neg h]
      by_cases hx : x = 94
      · have hy : y ≠ 94 := fun e => h ⟨hx, e⟩
        rw [if_pos hx]
        simp [hx, hy]
      · have hy : y = 94 := h'.resolve_left hx
        rw [if_neg hx, if_pos hy]
        simp [hx, hy]
theorem rpmS_end {p q : List UInt8} (h1 : hd 126 p = false) (h2 : hd 126 q = false) (he : p = [] ∨ q = []) : rpmS p q = sgn ((p.length : Int) - (q.length : Int)) := by
  cases p with
  | nil =>
    cases q with
    | nil => rfl
    | cons y q =>
      rw [hd_cons, decide_eq_false_iff_not] at h2
      simp only [rpmS]
      rw [if_neg h2]
      unfold sgn
      rw [if_pos (by simp only [List.length_nil, List.length_cons]; omega)]
  | cons x p =>
    cases q with
    | nil =>
      rw [hd_cons, decide_eq_false_iff_not] at h1
      simp only [rpmS]
      rw [if_neg h1]
      unfold sgn
      rw [if_neg (by simp only [List.length_nil, List.length_cons]; omega), if_pos (by simp only [List.length_nil, List.length_cons]; omega)]
    | cons y q => rcases he with he | he <;> cases he
theorem rpmS_dig {x : UInt8} {p q : List UInt8} (h1 : hd 126 (x :: p) = false) (h2 : hd 126 q = false) (h3 : hd 94 (x :: p) = false) (h4 : hd 94 q = false) (hq : q ≠ []) (hx : dig x = true) :
    rpmS (x :: p) q = if cnt dig q = 0 then 1 else if cmpN ((x :: p).take (cnt dig (x :: p))) (q.take (cnt dig q)) ≠ 0 then cmpN ((x :: p).take (cnt dig (x :: p))) (q.take (cnt dig q))
      else rpmT ((x :: p).drop (cnt dig (x :: p))) (q.drop (cnt dig q)) := by
  cases q with
  | nil => exact absurd rfl hq
  | cons y q =>
    simp only [hd_cons, decide_eq_false_iff_not] at h1 h2 h3 h4
    simp only [rpmS]
    rw [if_neg (fun h => h1 h.1), if_neg h1, if_neg h2, if_neg (fun h => h3 h.1), if_neg h3, if_neg h4, if_pos hx]
theorem rpmS_let {x : UInt8} {p q : List UInt8} (h1 : hd 126 (x :: p) = false) (h2 : hd 126 q = false) (h3 : hd 94 (x :: p) = false) (h4 : hd 94 q = false) (hq : q ≠ []) (hx : dig x = false) :
    rpmS (x :: p) q = if cnt lett q = 0 then -1 else if cmpB ((x :: p).take (cnt lett (x :: p))) (q.take (cnt lett q)) ≠ 0 then cmpB ((x :: p).take (cnt lett (x :: p))) (q.take (cnt lett q))
      else rpmT ((x :: p).drop (cnt lett (x :: p))) (q.drop (cnt lett q)) := by
  cases q with
  | nil => exact absurd rfl hq
  | cons y q =>
    simp only [hd_cons, decide_eq_false_iff_not] at h1 h2 h3 h4
    simp only [rpmS]
    rw [if_neg (fun h => h1 h.1), if_neg h1, if_neg h2, if_neg (fun h => h3 h.1), if_neg h3, if_neg h4, if_neg (by rw [hx]; simp)]
theorem skip_drop (s : ByteArray) : skip (bs s) = bs (s.extract (cnt odd (bs s)) s.size) := by
  rw [bs_drop, drop_cnt]
  rfl
theorem hd_size {c : UInt8} {s : ByteArray} (h : hd c (bs s) = true) : 0 < s.size := by
  rcases Nat.eq_zero_or_pos s.size with h0 | h0
  · rw [bs_nil.2 h0] at h; cases h
  · exact h0
end Go.Proofs.YtgggbjkgpjcklaaDoor
