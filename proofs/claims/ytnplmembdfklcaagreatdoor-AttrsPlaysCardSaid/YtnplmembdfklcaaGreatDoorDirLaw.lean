/-
  Directories: plain laws of paths, of what Dir leaves. Helper text; the conditions are those typed.
-/
import Derived.Test.YtnplmembdfklcaaGreatDoorDirA
namespace Go.Proofs.YtnplmembdfklcaaGreatDoor
set_option linter.unusedVariables false
set_option linter.unusedSimpArgs false
open Go.RowKit Go.Maps

theorem atAll_pre : ∀ (a : List UInt8) (t : List (List UInt8)), atAll a t = a ++ atAll [] t
  | a, [] => (List.append_nil a).symm
  | a, q :: t => by
    show atAll (a ++ 47 :: q) t = a ++ atAll ([] ++ 47 :: q) t
    rw [atAll_pre (a ++ 47 :: q) t, atAll_pre ([] ++ 47 :: q) t]
    simp
theorem splitC_ne (c : UInt8) : ∀ l, splitC c l ≠ []
  | [] => by simp [splitC]
  | x :: l => by
    rw [splitC_cons]
    split
    · simp
    · split <;> simp
theorem atAll_split : ∀ (r : List UInt8) (a : List UInt8), atAll a (splitC 47 r) = a ++ 47 :: r
  | [], a => rfl
  | x :: l, a => by
    rw [splitC_cons]
    by_cases hx : x = 47
    · rw [if_pos hx]
      show atAll (a ++ 47 :: []) (splitC 47 l) = _
      rw [atAll_split l, hx]
      simp
    · rw [if_neg hx]
      have ih := atAll_split l []
      cases h : splitC 47 l with
      | nil => exact absurd h (splitC_ne 47 l)
      | cons h0 t =>
        rw [h] at ih
        have ih' : atAll ([] ++ 47 :: h0) t = [] ++ 47 :: l := ih
        rw [atAll_pre] at ih'
        simp at ih'
        show atAll (a ++ 47 :: x :: h0) t = _
        rw [atAll_pre]
        rw [← ih']
        simp
theorem split_mem (c : UInt8) : ∀ (l q : List UInt8), q ∈ splitC c l → c ∉ q
  | [], q, h => by
    simp [splitC] at h
    subst h
    simp
  | x :: l, q, h => by
    rw [splitC_cons] at h
    by_cases hx : x = c
    · rw [if_pos hx] at h
      rcases List.mem_cons.1 h with h | h
      · subst h; simp
      · exact split_mem c l q h
    · rw [if_neg hx] at h
      have ih := split_mem c l
      cases hs : splitC c l with
      | nil => exact absurd hs (splitC_ne c l)
      | cons h0 t =>
        rw [hs] at h ih
        rcases List.mem_cons.1 h with h | h
        · subst h
          have := ih h0 (by simp)
          simp [Ne.symm hx, this]
        · exact ih q (by simp [h])
theorem ups_le : ∀ (qs : List (List UInt8)) (a x : List UInt8), x ∈ upsFrom a qs → x.length ≤ (atAll a qs).length
  | [], a, x, h => by cases h
  | q :: qs, a, x, h => by
    have e : atAll a (q :: qs) = atAll (a ++ 47 :: q) qs := rfl
    rcases List.mem_cons.1 h with h | h
    · subst h
      rw [e, atAll_pre]
      simp only [List.length_append]
      omega
    · rw [e]
      exact ups_le qs _ x h
/-- What ups answers: the path's parts. -/
theorem upsL_some {p : ByteArray} {l : List (List UInt8)} (h : upsL p = some l) : (bs p = [47] ∧ l = []) ∨ ∃ r, bs p = 47 :: r ∧ bs p ≠ [47] ∧ l = upsFrom [] (splitC 47 r) ∧ p.size ≤ 200 ∧ ∀ q ∈ splitC 47 r, q ≠ [] ∧ 47 ∉ q := by
  unfold upsL at h
  by_cases h0 : bs p = [47]
  · rw [if_pos h0] at h
    exact .inl ⟨h0, (Option.some.inj h).symm⟩
  · rw [if_neg h0] at h
    right
    cases hb : bs p with
    | nil => rw [hb] at h; cases h
    | cons c r =>
      rw [hb] at h
      by_cases hc : c = 47 ∧ p.size ≤ 200 ∧ cleanB (mkB r) = true ∧ (splitC 47 r).all okPart = true
      · simp only [if_pos hc] at h
        obtain ⟨rfl, h2, h3, h4⟩ := hc
        refine ⟨r, rfl, by rw [← hb]; exact h0, (Option.some.inj h).symm, h2, fun q hq => ⟨?_, split_mem 47 r q hq⟩⟩
        have := List.all_eq_true.1 h4 q hq
        unfold okPart at this
        simp at this
        exact this.1.1
      · simp only [if_neg hc] at h
        cases h
theorem upsL_size {p : ByteArray} {l : List (List UInt8)} (h : upsL p = some l) : (∀ x ∈ l, x.length ≤ 200) ∧ l.length ≤ 201 := by
  rcases upsL_some h with ⟨_, rfl⟩ | ⟨r, h1, _, rfl, h2, _⟩
  · exact ⟨fun x h => (by cases h), by simp⟩
  · have hr : r.length + 1 = p.size := by rw [← bs_len, h1]; rfl
    refine ⟨fun x hx => ?_, ?_⟩
    · have := ups_le _ _ x hx
      rw [atAll_split] at this
      simp at this
      omega
    · rw [upsFrom_len]
      have := splitC_len 47 r
      omega
end Go.Proofs.YtnplmembdfklcaaGreatDoor
