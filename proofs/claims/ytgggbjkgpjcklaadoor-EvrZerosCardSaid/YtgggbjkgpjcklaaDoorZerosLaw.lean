/-
  Noughts ahead of digits, a point ahead of a text: plain laws. Helper text; the conditions are those typed.
-/
import Derived.Test.YtgggbjkgpjcklaaDoorLawJoins
import Derived.Lib.ItoaNum
namespace Go.Proofs.YtgggbjkgpjcklaaDoor
set_option linter.unusedVariables false
set_option linter.unusedSimpArgs false

theorem dec_ne (u : Nat) : Lib.decDigits u ≠ [] := by
  rw [Lib.decDigits]
  split <;> simp
theorem dig_of {n : Nat} (h : n < 10) : dig (UInt8.ofNat (48 + n)) = true := by
  have : (UInt8.ofNat (48 + n)).toNat = 48 + n := by
    rw [UInt8.toNat_ofNat']
    omega
  unfold dig
  rw [this]
  simp
  omega
theorem dec_dig (u : Nat) : ∀ c ∈ Lib.decDigits u, dig c = true := by
  induction u using Nat.strongRecOn with
  | _ u ih =>
    intro c hc
    rw [Lib.decDigits] at hc
    split at hc
    · rename_i h
      rw [List.mem_singleton] at hc
      subst hc
      exact dig_of h
    · rename_i h
      rw [List.mem_append] at hc
      rcases hc with hc | hc
      · exact ih (u / 10) (by omega) c hc
      · rw [List.mem_singleton] at hc
        subst hc
        exact dig_of (Nat.mod_lt _ (by omega))

/-- bytes that stand in no epoch and no release -/
def calm (c : UInt8) : Prop := c ≠ 45 ∧ c ≠ 58
theorem calm_dig {c : UInt8} (h : dig c = true) : calm c := ⟨fun e => by subst e; revert h; decide, fun e => by subst e; revert h; decide⟩
theorem fi_pre {p l : List UInt8} (hp : ∀ c ∈ p, calm c) : fi 58 (p ++ l) = (fi 58 l).map (· + p.length) := by
  induction p with
  | nil => simp
  | cons c p ih =>
    rw [List.cons_append, fi, if_neg (hp c (by simp)).2, ih fun d hd => hp d (by simp [hd])]
    cases fi 58 l with
    | none => rfl
    | some i => simp; omega
theorem li_pre {p l : List UInt8} (hp : ∀ c ∈ p, calm c) : li 45 (p ++ l) = (li 45 l).map (· + p.length) := by
  induction p with
  | nil => simp
  | cons c p ih =>
    rw [List.cons_append, li, ih fun d hd => hp d (by simp [hd])]
    cases li 45 l with
    | none => simp [(hp c (by simp)).1]
    | some i => simp; omega
theorem mem_pre {p l : List UInt8} (hp : ∀ c ∈ p, calm c) : 58 ∈ p ++ l ↔ 58 ∈ l := by
  rw [List.mem_append]
  exact ⟨fun h => h.resolve_left fun hm => (hp 58 hm).2 rfl, .inr⟩
theorem parse2_pre {e p l : List UInt8} {x : Parts} (hp : ∀ c ∈ p, calm c) (h : parse2 e l = some x) : parse2 e (p ++ l) = some (e, p ++ x.2.1, x.2.2) := by
  unfold parse2 at h ⊢
  rw [li_pre hp]
  cases hj : li 45 l with
  | some j =>
    rw [hj] at h
    simp only [Option.map_some] at h ⊢
    have hd : (p ++ l).drop (j + p.length + 1) = l.drop (j + 1) := by
      rw [show j + p.length + 1 = p.length + (j + 1) by omega, ← List.drop_drop, List.drop_left]
    have ht : (p ++ l).take (j + p.length) = p ++ l.take j := by
      rw [show j + p.length = p.length + j by omega, List.take_length_add_append]
    rw [hd, ht]
    split at h
    · cases h
    · rename_i h1
      split at h
      · cases h
      · rename_i h2
        rw [if_neg h1, if_neg (by
          rintro (h3 | h3)
          · exact h2 (.inl (List.append_eq_nil_iff.1 h3).2)
          · exact h2 (.inr ((mem_pre hp).1 h3)))]
        cases h
        rfl
  | none =>
    rw [hj] at h
    simp only [Option.map_none] at h ⊢
    split at h
    · cases h
    · rename_i h1
      rw [if_neg (by
        rintro (h3 | h3)
        · exact h1 (.inl (List.append_eq_nil_iff.1 h3).2)
        · exact h1 (.inr ((mem_pre hp).1 h3)))]
      cases h
      rfl
/-- What stands ahead of a version without an epoch is of its version. -/
theorem parse_pre {p l : List UInt8} {x y : Parts} (hp : ∀ c ∈ p, calm c) (h : parse l = some x) (he : x.1 = []) (h' : parse (p ++ l) = some y) : y = ([], p ++ x.2.1, x.2.2) := by
  obtain ⟨h1, h2, h3⟩ := parse_no_epoch h he
  unfold parse at h'
  rw [fi_pre hp, h2] at h'
  simp only [Option.map_none] at h'
  split at h'
  · cases h'
  · rw [parse2_pre hp h3] at h'
    exact (Option.some.inj h').symm
/-- Digits and a point ahead: no epoch; the version begins with them. -/
theorem parse_point {d : UInt8} {D r : List UInt8} {x : Parts} (hd : ∀ c ∈ d :: D, dig c = true) (h : parse ((d :: D) ++ 46 :: r) = some x) : x.1 = [] ∧ ∃ v, x.2.1 = d :: v := by
  have hc : ∀ c ∈ (d :: D) ++ [46], calm c := by
    intro c hm
    rw [List.mem_append] at hm
    rcases hm with hm | hm
    · exact calm_dig (hd c hm)
    · rw [List.mem_singleton] at hm
      subst hm
      exact ⟨by decide, by decide⟩
  have hl : (d :: D) ++ 46 :: r = ((d :: D) ++ [46]) ++ r := by simp
  have h46 : (46 : UInt8) ∈ (d :: D) ++ [46] := by simp
  have he : x.1 = [] := by
    have h0 := h
    rw [hl] at h0
    generalize (d :: D) ++ [46] = q at h0 hc h46
    unfold parse at h0
    split at h0
    · cases h0
    · rw [fi_pre hc] at h0
      cases hf : fi 58 r with
      | none =>
        rw [hf] at h0
        exact parse2_fst h0
      | some i =>
        rw [hf] at h0
        simp only [Option.map_some] at h0
        split at h0
        · cases h0
        · rename_i h1
          exfalso
          apply h1
          rw [Nat.add_comm i q.length, List.take_length_add_append]
          unfold okEpoch
          have : (q ++ r.take i).all dig = false := by
            rw [List.all_eq_false]
            exact ⟨46, List.mem_append_left _ h46, by decide⟩
          rw [this, Bool.and_false]
  refine ⟨he, ?_⟩
  obtain ⟨h1, h2, h3⟩ := parse_no_epoch h he
  have hj := parse2_join h3
  obtain ⟨hv, hjl⟩ := hj
  cases hx : x.2.1 with
  | nil => exact absurd hx hv
  | cons c v =>
    rw [hx] at hjl
    have : d = c := by
      have := congrArg List.head? hjl
      simpa using this
    exact ⟨v, by rw [this]⟩

/-! ### noughts ahead of digits change no key -/
theorem strip0 (l : List UInt8) : strip (48 :: l) = strip l := by
  unfold strip
  rw [List.dropWhile_cons, if_pos (by decide)]
theorem d48 : dig 48 = true := by decide
theorem cnt48 (l : List UInt8) : cnt dig (48 :: l) = cnt dig l + 1 := by
  unfold cnt
  rw [List.takeWhile_cons, if_pos d48]
  rfl
theorem debK_zero {d : UInt8} (l : List UInt8) (h : dig d = true) : debK (48 :: d :: l) = debK (d :: l) := by
  have a1 := debK_d (weight_dig (l := d :: l) d48)
  have a2 := debK_d (weight_dig (l := l) h)
  rw [cnt48, List.take_succ_cons, List.drop_succ_cons, strip0] at a1
  have p1 := debK_pos (a := 48 :: d :: l) (by simp)
  have p2 := debK_pos (a := d :: l) (by simp)
  cases h1 : debK (48 :: d :: l) with
  | nil => rw [h1] at p1; simp at p1
  | cons t ts =>
    cases h2 : debK (d :: l) with
    | nil => rw [h2] at p2; simp at p2
    | cons u us =>
      rw [h1] at a1
      rw [h2] at a2
      simp only [List.headD_cons, List.tail_cons] at a1 a2
      rw [a1.1, a1.2, a2.1, a2.2]
theorem debT_zero {d : UInt8} (l y : List UInt8) (h : dig d = true) : debT (48 :: d :: l) y = debT (d :: l) y := by
  have k := debK_zero l h
  rw [debT_key _ _ _ (Nat.le_refl _) ((debK (d :: l)).length + (debK y).length) (by rw [k]; omega) (by omega), debT_key _ _ _ (Nat.le_refl _) ((debK (d :: l)).length + (debK y).length) (by omega) (by omega), k]
theorem dig_odd {d : UInt8} (h : dig d = true) : odd d = false := by
  unfold odd
  rw [h]
  rfl
theorem skip_dig {d : UInt8} (l : List UInt8) (h : dig d = true) : skip (d :: l) = d :: l := by
  unfold skip
  rw [List.dropWhile_cons, if_neg (by rw [dig_odd h]; simp)]
theorem dig_ne {d : UInt8} (h : dig d = true) : d ≠ 126 ∧ d ≠ 94 := ⟨fun e => by subst e; revert h; decide, fun e => by subst e; revert h; decide⟩
theorem rpmK_zero {d : UInt8} (l : List UInt8) (h : dig d = true) : rpmK (48 :: d :: l) = rpmK (d :: l) := by
  rw [rpmK_eq, rpmK_eq (d :: l), skip_dig _ d48, skip_dig _ h]
  simp only [rpmKS]
  rw [if_neg (dig_ne d48).1, if_neg (dig_ne d48).2, if_pos d48, if_neg (dig_ne h).1, if_neg (dig_ne h).2, if_pos h, cnt48, List.take_succ_cons, List.drop_succ_cons, strip0]
theorem rpmT_zero {d : UInt8} (l y : List UInt8) (h : dig d = true) : rpmT (48 :: d :: l) y = rpmT (d :: l) y := by
  have k := rpmK_zero l h
  rw [rpmT_key _ _ _ (Nat.le_refl _) ((rpmK (d :: l)).length + (rpmK y).length) (by rw [k]; omega) (by omega), rpmT_key _ _ _ (Nat.le_refl _) ((rpmK (d :: l)).length + (rpmK y).length) (by omega) (by omega), k]
theorem rpmT_point (l y : List UInt8) : rpmT (46 :: l) y = rpmT l y := by
  rw [rpmT_eq, rpmT_eq l]
  have : skip (46 :: l) = skip l := by
    unfold skip
    rw [List.dropWhile_cons, if_pos (by decide)]
  rw [this]
theorem partsC_zero (k : Int) {d : UInt8} (v r : List UInt8) (z : Parts) (h : dig d = true) : partsC k ([], 48 :: d :: v, r) z = partsC k ([], d :: v, r) z := by
  unfold partsC
  simp only [debT_zero v _ h, rpmT_zero v _ h]
theorem partsC_point (v r : List UInt8) (z : Parts) : partsC 1 ([], 46 :: v, r) z = partsC 1 ([], v, r) z := by
  unfold partsC
  simp only [rpmT_point, show ¬ ((1 : Int) = 2) by decide, if_false]

/-- EvrZeros, whatever stands ahead. -/
theorem zeros_of {k : Int} {l o p : List UInt8} {x z : Parts} (hp : ∀ c ∈ p, calm c) (hx : parse l = some x) (he : x.1 = []) (hz : parse o = some z) (hk : k = 1 ∨ k = 2) (h : (compareE k (p ++ l) o).2 = 0)
    (hpc : partsC k ([], p ++ x.2.1, x.2.2) z = partsC k x z) : compareE k (p ++ l) o = compareE k l o := by
  obtain ⟨y, z', hy, hz', _, hv⟩ := compareE_zero h
  have := parse_pre hp hx he hy
  subst this
  rw [compareE_ok hk hy hz, compareE_ok hk hx hz, hpc]
theorem zeros_law {k : Int} {d : UInt8} {D r o : List UInt8} (hd : ∀ c ∈ d :: D, dig c = true) (h0 : (compareE k ((d :: D) ++ 46 :: r) o).2 = 0) :
    ((compareE k ([48] ++ ((d :: D) ++ 46 :: r)) o).2 = 0 → compareE k ([48] ++ ((d :: D) ++ 46 :: r)) o = compareE k ((d :: D) ++ 46 :: r) o) ∧
    ((compareE k ([48, 48, 48] ++ ((d :: D) ++ 46 :: r)) o).2 = 0 → compareE k ([48, 48, 48] ++ ((d :: D) ++ 46 :: r)) o = compareE k ((d :: D) ++ 46 :: r) o) ∧
    (k = 1 → (compareE k ([46] ++ ((d :: D) ++ 46 :: r)) o).2 = 0 → compareE k ([46] ++ ((d :: D) ++ 46 :: r)) o = compareE k ((d :: D) ++ 46 :: r) o) := by
  obtain ⟨x, z, hx, hz, hk, _⟩ := compareE_zero h0
  obtain ⟨he, v, hv⟩ := parse_point hd hx
  have hdd : dig d = true := hd d (by simp)
  have ex : x = ([], d :: v, x.2.2) := by
    obtain ⟨x1, x2, x3⟩ := x
    simp only at he hv
    subst he hv
    rfl
  refine ⟨fun h => zeros_of ?_ hx he hz hk h ?_, fun h => zeros_of ?_ hx he hz hk h ?_, fun hk1 h => zeros_of ?_ hx he hz hk h ?_⟩
  · intro c hc
    rw [List.mem_singleton] at hc
    subst hc
    exact ⟨by decide, by decide⟩
  · rw [hv]
    show partsC k ([], 48 :: d :: v, x.2.2) z = _
    rw [partsC_zero k v _ z hdd, ← ex]
  · intro c hc
    simp only [List.mem_cons, List.not_mem_nil, or_false, or_self] at hc
    subst hc
    exact ⟨by decide, by decide⟩
  · rw [hv]
    show partsC k ([], 48 :: 48 :: 48 :: d :: v, x.2.2) z = _
    rw [partsC_zero k _ _ z d48, partsC_zero k _ _ z d48, partsC_zero k v _ z hdd, ← ex]
  · intro c hc
    rw [List.mem_singleton] at hc
    subst hc
    exact ⟨by decide, by decide⟩
  · subst hk1
    rw [hv]
    show partsC 1 ([], 46 :: d :: v, x.2.2) z = _
    rw [partsC_point, ← ex]
end Go.Proofs.YtgggbjkgpjcklaaDoor
