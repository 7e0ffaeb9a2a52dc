/-
  A version's parts put together again; an epoch ahead of it: plain laws. Helper text; the conditions are those typed.
-/
import Derived.Test.YtgggbjkgpjcklaaDoorWalkK
namespace Go.Proofs.YtgggbjkgpjcklaaDoor
set_option linter.unusedVariables false
set_option linter.unusedSimpArgs false

theorem parse2_fst {e r : List UInt8} {x : Parts} (h : parse2 e r = some x) : x.1 = e := by
  unfold parse2 at h
  cases hj : li 45 r with
  | some j =>
    rw [hj] at h
    simp only at h
    split at h
    · cases h
    · split at h
      · cases h
      · cases h; rfl
  | none =>
    rw [hj] at h
    simp only at h
    split at h
    · cases h
    · cases h; rfl
theorem parse2_ep {e r : List UInt8} {x : Parts} (h : parse2 e r = some x) (e' : List UInt8) : parse2 e' r = some (e', x.2.1, x.2.2) := by
  unfold parse2 at h ⊢
  cases hj : li 45 r with
  | some j =>
    rw [hj] at h
    simp only at h ⊢
    split at h
    · cases h
    · rename_i h1
      split at h
      · cases h
      · rename_i h2
        rw [if_neg h1, if_neg h2]
        cases h; rfl
  | none =>
    rw [hj] at h
    simp only at h ⊢
    split at h
    · cases h
    · rename_i h1
      rw [if_neg h1]
      cases h; rfl
theorem split_at {l : List UInt8} {i : Nat} {c : UInt8} (h : i < l.length) (hc : l[i] = c) : l = l.take i ++ c :: l.drop (i + 1) := by
  rw [← hc, ← List.drop_eq_getElem_cons h, List.take_append_drop]
theorem parse2_join {e r : List UInt8} {x : Parts} (h : parse2 e r = some x) : x.2.1 ≠ [] ∧ r = x.2.1 ++ (if x.2.2 = [] then [] else 45 :: x.2.2) := by
  unfold parse2 at h
  cases hj : li 45 r with
  | some j =>
    rw [hj] at h
    simp only at h
    split at h
    · cases h
    · rename_i h1
      split at h
      · cases h
      · rename_i h2
        obtain ⟨hl, hc, _⟩ := li_some.1 hj
        cases h
        refine ⟨fun e => h2 (.inl e), ?_⟩
        simp only
        rw [if_neg h1]
        exact split_at hl hc
  | none =>
    rw [hj] at h
    simp only at h
    split at h
    · cases h
    · rename_i h1
      cases h
      exact ⟨fun e => h1 (.inl e), by simp⟩
theorem okEpoch_ne {l : List UInt8} (h : okEpoch l = true) : l ≠ [] := by
  rintro rfl
  cases h
theorem parse_join {l : List UInt8} {x : Parts} (h : parse l = some x) : x.2.1 ≠ [] ∧ l = (if x.1 = [] then [] else x.1 ++ [58]) ++ (x.2.1 ++ (if x.2.2 = [] then [] else 45 :: x.2.2)) := by
  unfold parse at h
  split at h
  · cases h
  · cases hi : fi 58 l with
    | some i =>
      rw [hi] at h
      simp only at h
      split at h
      · cases h
      · rename_i hE
        have hne := okEpoch_ne (by simpa using hE)
        obtain ⟨hl, hc, _⟩ := fi_some.1 hi
        have h1 := parse2_fst h
        obtain ⟨h2, h3⟩ := parse2_join h
        refine ⟨h2, ?_⟩
        rw [← h3, h1, if_neg hne]
        have := split_at hl hc
        simpa using this
    | none =>
      rw [hi] at h
      have h1 := parse2_fst h
      obtain ⟨h2, h3⟩ := parse2_join h
      refine ⟨h2, ?_⟩
      rw [← h3, h1, if_pos rfl]
      rfl
/-- A version without an epoch. -/
theorem parse_no_epoch {l : List UInt8} {x : Parts} (h : parse l = some x) (he : x.1 = []) : okText l = true ∧ fi 58 l = none ∧ parse2 [] l = some x := by
  unfold parse at h
  split at h
  · cases h
  · rename_i ho
    cases hi : fi 58 l with
    | some i =>
      rw [hi] at h
      simp only at h
      split at h
      · cases h
      · rename_i hE
        have hne := okEpoch_ne (by simpa using hE)
        rw [parse2_fst h] at he
        exact absurd he hne
    | none =>
      rw [hi] at h
      exact ⟨by simpa using ho, rfl, h⟩
theorem parse_epoch_d {l : List UInt8} {x : Parts} (h : parse l = some x) (he : x.1 = []) (hl : l.length ≤ 50) (d : UInt8) (hd : d = 48 ∨ d = 49) : parse (d :: 58 :: l) = some ([d], x.2.1, x.2.2) := by
  obtain ⟨h1, h2, h3⟩ := parse_no_epoch h he
  have hok : okText (d :: 58 :: l) = true := by
    unfold okText at h1 ⊢
    simp only [Bool.and_eq_true, decide_eq_true_eq] at h1 ⊢
    refine ⟨⟨rfl, by simp only [List.length_cons]; omega⟩, ?_⟩
    simp only [List.all_cons, h1.2, Bool.and_true]
    rcases hd with rfl | rfl <;> decide
  have hfi : fi 58 (d :: 58 :: l) = some 1 := by
    unfold fi
    rw [if_neg (by rcases hd with rfl | rfl <;> decide)]
    unfold fi
    rw [if_pos rfl]
    rfl
  unfold parse
  rw [if_neg (by rw [hok]; simp), hfi]
  simp only [List.take_succ_cons, List.take_zero, List.drop_succ_cons, List.drop_zero]
  rw [if_neg (by rcases hd with rfl | rfl <;> decide)]
  exact parse2_ep h3 [d]
theorem join_less {k : Int} (hk : k = 1 ∨ k = 2) {l : List UInt8} {x : Parts} (h : parse l = some x) (he : x.1 = []) (hl : l.length ≤ 50) : compareE k l (49 :: 58 :: l) = (-1, 0) := by
  rw [compareE_ok hk h (parse_epoch_d h he hl 49 (.inr rfl))]
  have hc : cmpN [] [49] = -1 := by decide
  have e : (partsC k x ([49], x.2.1, x.2.2)).1 = -1 := by
    unfold partsC
    simp only [he, hc]
    split <;> rfl
  rw [e]
  rfl
theorem join_same {k : Int} (hk : k = 1 ∨ k = 2) {l : List UInt8} {x : Parts} (h : parse l = some x) (he : x.1 = []) (hl : l.length ≤ 50) : compareE k l (48 :: 58 :: l) = (0, 0) := by
  rw [compareE_ok hk h (parse_epoch_d h he hl 48 (.inl rfl))]
  have h0 : cmpN [] [48] = cmpN [] [] := by decide
  have e : partsC k x ([48], x.2.1, x.2.2) = partsC k x x := by
    unfold partsC
    simp only [he, h0]
  rw [e]
  have := (allC_cmp k).refl x
  exact Prod.ext this rfl
theorem join_rough {k : Int} (hk : k = 1 ∨ k = 2) {l : List UInt8} {x : Parts} (h : parse l = some x) (he : x.1 = []) (hw : parse x.2.1 = some ([], x.2.1, [])) : meetsE k 2 x.2.1 2 l = (true, 0) := by
  rw [meetsE_ok (by unfold badArgs; omega) (by omega) hw h]
  have e : relP k ([], x.2.1, []) x = 0 := by
    unfold relP
    rw [if_neg (fun h => h.2.1 rfl)]
    have h0 : cmpN [] [] = 0 := by decide
    unfold partsC
    simp only [he, h0]
    split
    · simp [debT_cmp.refl]
    · simp [rpmT_cmp.refl]
  rw [e]
  rfl
end Go.Proofs.YtgggbjkgpjcklaaDoor
