/-
  All values tried, one by one; a core that can lose none. Plain; no program in sight.
-/
import Derived.Test.YtkeagjphddcjeaaSatTurn
namespace Go.Proofs.Ytkeagjphddcjeaa
set_option linter.unusedVariables false
set_option linter.unusedSimpArgs false
open Sat
/-- By the bits of a number. -/
def vB (b : Nat) : Asg := fun i => b / 2 ^ i % 2 == 1
theorem vB_all : ∀ (n : Nat) (u : Asg), ∃ b, b < 2 ^ n ∧ ∀ i, i < n → vB b i = u i
  | 0, u => ⟨0, by decide, fun i h => absurd h (Nat.not_lt_zero i)⟩
  | n + 1, u => by
    obtain ⟨b, hb, h⟩ := vB_all n fun i => u (i + 1)
    obtain ⟨c, hc, hu⟩ : ∃ c, c < 2 ∧ (c == 1) = u 0 := by
      cases u 0 with
      | true => exact ⟨1, by omega, rfl⟩
      | false => exact ⟨0, by omega, rfl⟩
    refine ⟨2 * b + c, by rw [Nat.pow_succ]; omega, fun i hi => ?_⟩
    cases i with
    | zero =>
      unfold vB
      rw [Nat.pow_zero, Nat.div_one, show (2 * b + c) % 2 = c from by omega]
      exact hu
    | succ i =>
      have h1 := h i (by omega)
      unfold vB at h1 ⊢
      rw [show 2 ^ (i + 1) = 2 * 2 ^ i from by rw [Nat.pow_succ, Nat.mul_comm], ← Nat.div_div_eq_div_mul, show (2 * b + c) / 2 = b from by omega]
      exact h1
/-- Is one ahead of another? -/
def aheadB (a b : Asg) : List Int → Bool
  | [] => false
  | g :: gs => if litB a g = litB b g then aheadB a b gs else litB a g
theorem aheadB_true {a b : Asg} : ∀ {gs : List Int}, aheadB a b gs = true → Ahead gs a b
  | [], h => by cases h
  | g :: gs, h => by
    unfold aheadB at h
    by_cases e : litB a g = litB b g
    · rw [if_pos e] at h
      obtain ⟨i, g', h1, h2, h3, h4⟩ := aheadB_true h
      refine ⟨i + 1, g', h1, h2, h3, fun j g'' hj hg => ?_⟩
      cases j with
      | zero =>
        cases hg
        exact e
      | succ j => exact h4 j g'' (by omega) hg
    · rw [if_neg e] at h
      refine ⟨0, g, rfl, h, ?_, fun j g'' hj => absurd hj (Nat.not_lt_zero j)⟩
      rw [h] at e
      cases hb : litB b g with
      | true => exact absurd hb.symm e
      | false => rfl
theorem aheadB_other {a b : Asg} : ∀ {gs : List Int}, aheadB a b gs = false → (∃ g ∈ gs, litB a g ≠ litB b g) → Ahead gs b a
  | [], _, ⟨g, hg, _⟩ => by cases hg
  | g :: gs, h, ⟨g0, hg0, hd⟩ => by
    unfold aheadB at h
    by_cases e : litB a g = litB b g
    · rw [if_pos e] at h
      have hm : g0 ∈ gs := by
        rcases List.mem_cons.1 hg0 with h1 | h1
        · rw [h1] at hd
          exact absurd e hd
        · exact h1
      obtain ⟨i, g', h1, h2, h3, h4⟩ := aheadB_other h ⟨g0, hm, hd⟩
      refine ⟨i + 1, g', h1, h2, h3, fun j g'' hj hg => ?_⟩
      cases j with
      | zero =>
        cases hg
        exact e.symm
      | succ j => exact h4 j g'' (by omega) hg
    · rw [if_neg e] at h
      refine ⟨0, g, rfl, ?_, h, fun j g'' hj => absurd hj (Nat.not_lt_zero j)⟩
      rw [h] at e
      cases hb : litB b g with
      | false => exact absurd hb.symm e
      | true => rfl
theorem Ahead.trans {gs : List Int} {a b c : Asg} (h : Ahead gs a b) (k : Ahead gs b c) : Ahead gs a c := by
  obtain ⟨i, g, h1, h2, h3, h4⟩ := h
  obtain ⟨j, g', k1, k2, k3, k4⟩ := k
  rcases Nat.lt_trichotomy i j with hij | hij | hij
  · exact ⟨i, g, h1, h2, by rw [← k4 i g hij h1]; exact h3, fun m x hm hx => (h4 m x hm hx).trans (k4 m x (by omega) hx)⟩
  · subst hij
    rw [h1] at k1
    cases k1
    rw [h3] at k2
    cases k2
  · exact ⟨j, g', k1, by rw [h4 j g' hij k1]; exact k2, k3, fun m x hm hx => (h4 m x (by omega) hx).trans (k4 m x hm hx)⟩
theorem litB_congr {n : Nat} {v u : Asg} {l : Int} (hl : Lok n l) (h : ∀ i, i < n → v i = u i) : litB v l = litB u l := by
  unfold litB
  rw [h (vr l) hl.lt]
theorem sat_congr {n : Nat} {v u : Asg} {ls : List Cl} (hl : ∀ c ∈ ls, ∀ x ∈ c, Lok n x) (h : ∀ i, i < n → v i = u i) (hv : sat v ls) : sat u ls := fun c hc => by
  obtain ⟨x, hx, hb⟩ := hv c hc
  exact ⟨x, hx, by rw [← litB_congr (hl c hc x hx) h]; exact hb⟩
theorem ahead_congr {n : Nat} {gs : List Int} {v u u' : Asg} (hl : ∀ g ∈ gs, Lok n g) (h : ∀ i, i < n → u i = u' i) (hv : Ahead gs v u) : Ahead gs v u' := by
  obtain ⟨i, g, h1, h2, h3, h4⟩ := hv
  exact ⟨i, g, h1, h2, by rw [← litB_congr (hl g (List.mem_of_getElem? h1)) h]; exact h3, fun j x hj hx => (h4 j x hj hx).trans (litB_congr (hl x (List.mem_of_getElem? hx)) h)⟩
theorem ahead_diff {n : Nat} {pr : List Int} {v u : Asg} {i : Nat} (hi : i < n) (h : v i ≠ u i) : ∃ g ∈ gsOf n pr, litB v g ≠ litB u g := by
  refine ⟨-(i : Int) - 1, ?_, ?_⟩
  · unfold gsOf
    exact List.mem_append_right _ (List.mem_map.2 ⟨i, List.mem_range.2 hi, rfl⟩)
  · have hv : vr (-(i : Int) - 1) = i := by unfold vr; omega
    have : ∀ w : Asg, litB w (-(i : Int) - 1) = !w i := fun w => by
      unfold litB
      rw [hv, if_pos (by omega)]
    rw [this, this]
    intro e
    apply h
    revert e
    cases v i <;> cases u i <;> simp
/-- Behind the first b values. -/
def EnumP (n : Nat) (ls : List Cl) (pr : List Int) (b : Nat) (f : Bool) (v : Asg) : Prop :=
  (f = false ∧ ∀ j, j < b → ¬ sat (vB j) ls) ∨ (f = true ∧ sat v ls ∧ ∀ j, j < b → sat (vB j) ls → (∃ i, i < n ∧ v i ≠ vB j i) → Ahead (gsOf n pr) v (vB j))
section
variable {n : Nat} {ls : List Cl} {pr : List Int} {b : Nat} {f : Bool} {v : Asg}
theorem EnumP.start (v : Asg) : EnumP n ls pr 0 false v := .inl ⟨rfl, fun j h => absurd h (Nat.not_lt_zero j)⟩
theorem EnumP.skip (h : EnumP n ls pr b f v) (hs : ¬ sat (vB b) ls) : EnumP n ls pr (b + 1) f v := by
  rcases h with ⟨h1, h2⟩ | ⟨h1, h2, h3⟩
  · refine .inl ⟨h1, fun j hj => ?_⟩
    by_cases e : j = b
    · rw [e]
      exact hs
    · exact h2 j (by omega)
  · refine .inr ⟨h1, h2, fun j hj hsj => ?_⟩
    by_cases e : j = b
    · rw [e] at hsj
      exact absurd hsj hs
    · exact h3 j (by omega) hsj
theorem EnumP.first (h : EnumP n ls pr b false v) (hs : sat (vB b) ls) : EnumP n ls pr (b + 1) true (vB b) := by
  rcases h with ⟨_, h2⟩ | ⟨h1, _⟩
  · refine .inr ⟨rfl, hs, fun j hj hsj ⟨i, hi, hne⟩ => ?_⟩
    by_cases e : j = b
    · rw [e] at hne
      exact absurd rfl hne
    · exact absurd hsj (h2 j (by omega))
  · cases h1
theorem EnumP.better (hp : ∀ x ∈ pr, Lok n x) (h : EnumP n ls pr b true v) (hs : sat (vB b) ls) (ha : aheadB (vB b) v (gsOf n pr) = true) : EnumP n ls pr (b + 1) true (vB b) := by
  rcases h with ⟨h1, _⟩ | ⟨_, h2, h3⟩
  · cases h1
  · refine .inr ⟨rfl, hs, fun j hj hsj ⟨i, hi, hne⟩ => ?_⟩
    by_cases e : j = b
    · rw [e] at hne
      exact absurd rfl hne
    · by_cases hd : ∃ i, i < n ∧ v i ≠ vB j i
      · exact Go.Proofs.Ytkeagjphddcjeaa.Ahead.trans (aheadB_true ha) (h3 j (by omega) hsj hd)
      · refine ahead_congr (gsOf_ok hp) (fun i hi => ?_) (aheadB_true ha)
        exact Classical.byContradiction fun hn => hd ⟨i, hi, hn⟩
theorem EnumP.worse (h : EnumP n ls pr b true v) (ha : aheadB (vB b) v (gsOf n pr) = false) : EnumP n ls pr (b + 1) true v := by
  rcases h with ⟨h1, _⟩ | ⟨_, h2, h3⟩
  · cases h1
  · refine .inr ⟨rfl, h2, fun j hj hsj hd => ?_⟩
    by_cases e : j = b
    · subst e
      obtain ⟨i, hi, hne⟩ := hd
      exact aheadB_other ha (ahead_diff hi hne.symm)
    · exact h3 j (by omega) hsj hd
theorem EnumP.none (hl : ∀ c ∈ ls, ∀ x ∈ c, Lok n x) (h : EnumP n ls pr (2 ^ n) false v) : ∀ u, ¬ sat u ls := fun u hu => by
  rcases h with ⟨_, h2⟩ | ⟨h1, _⟩
  · obtain ⟨j, hj, he⟩ := vB_all n u
    exact h2 j hj (sat_congr hl (fun i hi => (he i hi).symm) hu)
  · cases h1
theorem EnumP.best (hl : ∀ c ∈ ls, ∀ x ∈ c, Lok n x) (hp : ∀ x ∈ pr, Lok n x) (h : EnumP n ls pr (2 ^ n) true v) : Best n ls pr v := by
  rcases h with ⟨h1, _⟩ | ⟨_, h2, h3⟩
  · cases h1
  · refine ⟨h2, fun u hu ⟨i, hi, hne⟩ => ?_⟩
    obtain ⟨j, hj, he⟩ := vB_all n u
    exact ahead_congr (gsOf_ok hp) he (h3 j hj (sat_congr hl (fun i hi => (he i hi).symm) hu) ⟨i, hi, by rw [he i hi]; exact hne⟩)
end
/-- The first loop's part of it. -/
theorem aheadB_append {a b : Asg} : ∀ (gs hs : List Int), aheadB a b (gs ++ hs) = if ∀ g ∈ gs, litB a g = litB b g then aheadB a b hs else aheadB a b gs
  | [], hs => by simp
  | g :: gs, hs => by
    show (if litB a g = litB b g then aheadB a b (gs ++ hs) else litB a g) = _
    by_cases e : litB a g = litB b g
    · rw [if_pos e, aheadB_append gs hs]
      by_cases e2 : ∀ g ∈ gs, litB a g = litB b g
      · rw [if_pos e2, if_pos (fun x hx => by
          rcases List.mem_cons.1 hx with hx | hx
          · rw [hx]; exact e
          · exact e2 x hx)]
      · rw [if_neg e2, if_neg (fun h => e2 fun x hx => h x (List.mem_cons_of_mem _ hx))]
        unfold aheadB
        rw [if_pos e]
        cases gs <;> rfl
    · rw [if_neg e, if_neg (fun h => e (h g (List.mem_cons_self ..)))]
      unfold aheadB
      rw [if_neg e]
/-- At the first place at which they part. -/
theorem aheadB_at {a b : Asg} {gs : List Int} {k : Nat} {g : Int} (hk : gs[k]? = some g) (hp : ∀ x ∈ gs.take k, litB a x = litB b x) (hd : litB a g ≠ litB b g) : aheadB a b gs = litB a g := by
  have hi := (List.getElem?_eq_some_iff.1 hk).1
  have e : gs = gs.take k ++ g :: gs.drop (k + 1) := by
    rw [← (List.getElem?_eq_some_iff.1 hk).2, List.getElem_cons_drop, List.take_append_drop]
  rw [e, aheadB_append, if_pos hp]
  unfold aheadB
  rw [if_neg hd]
theorem aheadB_none {a b : Asg} {gs : List Int} (hp : ∀ x ∈ gs, litB a x = litB b x) : aheadB a b gs = false := by
  have := aheadB_append (a := a) (b := b) gs []
  rw [List.append_nil, if_pos hp] at this
  exact this
theorem litB_minus (v : Asg) (i : Nat) : litB v (-(i : Int) - 1) = !v i := by
  have hv : vr (-(i : Int) - 1) = i := by unfold vr; omega
  unfold litB
  rw [hv, if_pos (by omega)]

theorem coreN_sub {ls : List Cl} {k : Nat} : ∀ m, k ≤ m → ∀ x ∈ coreN ls m, x ∈ coreN ls k
  | 0, h, x, hx => by
    have : k = 0 := by omega
    rw [this]
    exact hx
  | m + 1, h, x, hx => by
    by_cases e : k = m + 1
    · rw [e]
      exact hx
    · refine coreN_sub m (by omega) x ?_
      unfold coreN coreS at hx
      split at hx
      · exact (List.mem_filter.1 hx).1
      · exact hx
theorem coreN_rise (ls : List Cl) : ∀ m, (coreN ls m).Pairwise (· < ·)
  | 0 => List.pairwise_lt_range
  | m + 1 => by
    unfold coreN coreS
    split
    · exact (coreN_rise ls m).filter _
    · exact coreN_rise ls m
theorem core_min {ls : List Cl} {j : Nat} (hj : j ∈ coreF ls) (hl : j < ls.length) : ∃ v, sat v (subL ls ((coreF ls).filter (· != j))) := by
  have h1 := coreN_sub (ls := ls) (k := j + 1) ls.length (by omega) j hj
  have h0 := coreN_sub (ls := ls) (k := j) ls.length (by omega)
  have hu : unB ls ((coreN ls j).filter (· != j)) = false := by
    cases hb : unB ls ((coreN ls j).filter (· != j)) with
    | false => rfl
    | true =>
      unfold coreN coreS at h1
      rw [if_pos hb] at h1
      have := (List.mem_filter.1 h1).2
      simp at this
  have : ∃ v, sat v (subL ls ((coreN ls j).filter (· != j))) := Classical.byContradiction fun hn => by
    rw [unB_true fun v hv => hn ⟨v, hv⟩] at hu
    cases hu
  obtain ⟨v, hv⟩ := this
  refine ⟨v, fun c hc => hv c ?_⟩
  obtain ⟨k, hk, rfl⟩ := List.mem_map.1 hc
  rw [List.mem_filter] at hk
  exact List.mem_map.2 ⟨k, List.mem_filter.2 ⟨h0 k hk.1, hk.2⟩, rfl⟩
end Go.Proofs.Ytkeagjphddcjeaa
