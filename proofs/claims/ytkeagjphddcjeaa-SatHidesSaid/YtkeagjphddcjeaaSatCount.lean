/-
  Clauses that are solved, the plain law: how often it can go back. A helper text; no conditions beyond those typed.
-/
import Derived.Test.YtkeagjphddcjeaaSatEnd
namespace Go.Proofs.Ytkeagjphddcjeaa
set_option linter.unusedVariables false
set_option linter.unusedSimpArgs false
namespace Sat

/-- A row of bits as a number, the first one the greatest. -/
def bitsV (b : Nat → Bool) : Nat → Nat
  | 0 => 0
  | k + 1 => 2 * bitsV b k + (if b k = true then 1 else 0)
theorem bitsV_lt (b : Nat → Bool) : ∀ k, bitsV b k < 2 ^ k
  | 0 => by show 0 < 1; omega
  | k + 1 => by
    have := bitsV_lt b k
    unfold bitsV
    rw [Nat.pow_succ]
    split <;> omega
theorem bitsV_congr {b b' : Nat → Bool} : ∀ {k : Nat}, (∀ p, p < k → b p = b' p) → bitsV b k = bitsV b' k
  | 0, _ => rfl
  | k + 1, h => by
    unfold bitsV
    rw [bitsV_congr (k := k) (fun p hp => h p (by omega)), h k (by omega)]
theorem bitsV_le {b b' : Nat → Bool} : ∀ {k : Nat}, (∀ p, p < k → b p = true → b' p = true) → bitsV b k ≤ bitsV b' k
  | 0, _ => Nat.le_refl _
  | k + 1, h => by
    have ih := bitsV_le (k := k) (fun p hp => h p (by omega))
    unfold bitsV
    by_cases h1 : b k = true
    · rw [if_pos h1, if_pos (h k (by omega) h1)]
      omega
    · rw [if_neg h1]
      omega
theorem bitsV_rise {b b' : Nat → Bool} {m : Nat} (he : ∀ p, p < m → b p = b' p) (h0 : b m = false) (h1 : b' m = true) : ∀ {k : Nat}, m < k → bitsV b k < bitsV b' k
  | 0, h => absurd h (Nat.not_lt_zero _)
  | k + 1, h => by
    by_cases hk : m = k
    · subst hk
      unfold bitsV
      rw [bitsV_congr he, h0, h1]
      simp
    · have ih := bitsV_rise he h0 h1 (k := k) (by omega)
      unfold bitsV
      split <;> split <;> omega
/-- The trail's bits: what is asked, and no guess. -/
def trB (tr : List En) (mk : List Nat) : Nat → Bool := fun p => decide (p < tr.length) && !mk.contains p
section
variable {n : Nat} {orig : List Cl} {gs : List Int} {cs : List Cl} {tr : List En} {mk : List Nat}
def trV (n : Nat) (tr : List En) (mk : List Nat) : Nat := bitsV (trB tr mk) n
theorem trV_asked (e : En) : trV n tr mk ≤ trV n (tr ++ [e]) mk := bitsV_le fun p hp h => by
  unfold trB at *
  rw [Bool.and_eq_true, decide_eq_true_eq] at *
  refine ⟨?_, h.2⟩
  rw [List.length_append]
  omega
theorem trV_guess (e : En) : trV n tr mk ≤ trV n (tr ++ [e]) (mk ++ [tr.length]) := bitsV_le fun p hp h => by
  unfold trB at *
  rw [Bool.and_eq_true, decide_eq_true_eq] at *
  refine ⟨by rw [List.length_append]; omega, ?_⟩
  have h2 := h.2
  simp only [Bool.not_eq_true', List.contains_eq_mem, decide_eq_false_iff_not] at h2 ⊢
  intro hm
  rcases List.mem_append.1 hm with h3 | h3
  · exact h2 h3
  · have := List.mem_singleton.1 h3
    omega
theorem trV_back (h : Tr n orig gs cs tr mk) {back m : Nat} (hm : mk[back]? = some m) (hmn : m < n) (e : En) : trV n tr mk < trV n (tr.take m ++ [e]) (mk.take back) := by
  have hml : m < tr.length := h.inn m (List.mem_of_getElem? hm)
  have hlen : (tr.take m).length = m := by rw [List.length_take]; omega
  have hnot : m ∉ mk.take back := fun hh => by
    obtain ⟨j, hj⟩ := List.mem_iff_getElem?.1 hh
    have hj1 := (List.getElem?_eq_some_iff.1 hj).1
    rw [List.length_take] at hj1
    have hj2 : j < back := by omega
    rw [List.getElem?_take_of_lt hj2] at hj
    have h1 := (List.getElem?_eq_some_iff.1 hm).1
    have h2 := (List.getElem?_eq_some_iff.1 hj).1
    have := List.pairwise_iff_getElem.1 h.sorted j back h2 h1 hj2
    rw [(List.getElem?_eq_some_iff.1 hm).2, (List.getElem?_eq_some_iff.1 hj).2] at this
    omega
  refine bitsV_rise (m := m) (fun p hp => ?_) ?_ ?_ hmn
  · unfold trB
    have hc : mk.contains p = (mk.take back).contains p := by
      rw [List.contains_eq_mem, List.contains_eq_mem]
      congr 1
      apply propext
      constructor
      · intro hh
        obtain ⟨j, hj⟩ := List.mem_iff_getElem?.1 hh
        by_cases hjb : j < back
        · exact List.mem_of_getElem? (i := j) (by rw [List.getElem?_take_of_lt hjb]; exact hj)
        · exfalso
          have h1 := (List.getElem?_eq_some_iff.1 hm).1
          have h2 := (List.getElem?_eq_some_iff.1 hj).1
          by_cases h0 : j = back
          · subst h0
            rw [hm] at hj
            cases hj
            omega
          · have := List.pairwise_iff_getElem.1 h.sorted back j h1 h2 (by omega)
            rw [(List.getElem?_eq_some_iff.1 hm).2, (List.getElem?_eq_some_iff.1 hj).2] at this
            omega
      · exact fun hh => List.mem_of_mem_take hh
    rw [hc]
    congr 1
    rw [List.length_append, hlen]
    have e1 : decide (p < tr.length) = true := decide_eq_true (by omega)
    have e2 : decide (p < m + [e].length) = true := decide_eq_true (by simp; omega)
    rw [e1, e2]
  · unfold trB
    rw [List.contains_eq_mem, decide_eq_true (List.mem_of_getElem? hm)]
    simp
  · unfold trB
    rw [List.contains_eq_mem, decide_eq_false hnot, List.length_append, hlen]
    simp
theorem trV_lt (n : Nat) (tr : List En) (mk : List Nat) : trV n tr mk < 2 ^ n := bitsV_lt _ _
/-- A trail has no more literals than there are variables. -/
theorem tr_len (h : Tr n orig gs cs tr mk) : tr.length ≤ n := by
  have hnd : (tr.map fun e => vr e.lit).Nodup := by
    rw [List.nodup_iff_pairwise_ne, List.pairwise_map]
    rw [List.pairwise_iff_getElem]
    intro i j hi hj hij heq
    have := h.one i j tr[i] tr[j] (List.getElem?_eq_getElem hi) (List.getElem?_eq_getElem hj) heq
    omega
  have hsub : ∀ x ∈ tr.map (fun e => vr e.lit), x ∈ List.range n := fun x hx => by
    obtain ⟨e, he, rfl⟩ := List.mem_map.1 hx
    exact List.mem_range.2 (h.ok e he).lt
  have := List.Nodup.length_le_of_subset hnd hsub
  simpa using this
end
end Sat
end Go.Proofs.Ytkeagjphddcjeaa
