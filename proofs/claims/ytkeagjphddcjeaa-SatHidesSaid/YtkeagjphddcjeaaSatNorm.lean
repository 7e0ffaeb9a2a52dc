/-
  Clauses that are solved, the plain law: clauses without literals twice; what covers the clauses that came; guesses; what is found. A helper text; no conditions beyond those typed.
-/
import Derived.Test.YtkeagjphddcjeaaSatBack
import Derived.Lib.SlicesCompact
import Derived.Lib.RowBridge
namespace Go.Proofs.Ytkeagjphddcjeaa
set_option linter.unusedVariables false
set_option linter.unusedSimpArgs false
namespace Sat
/-- A list that rises, each number once. -/
def Rising (l : List Int) : Prop := l.Pairwise (· < ·)
theorem Rising.nil : Rising [] := List.Pairwise.nil
theorem compactUpTo_law (zs : List Int) (h : zs.Pairwise (· ≤ ·)) : ∀ m, m ≤ zs.length →
    Rising (Lib.compactUpTo zs.toArray m) ∧ (∀ x, x ∈ Lib.compactUpTo zs.toArray m ↔ x ∈ zs.take m) ∧ (∀ x ∈ Lib.compactUpTo zs.toArray m, ∀ j (hj : j < zs.length), m ≤ j + 1 → x ≤ zs[j])
  | 0, _ => by
    refine ⟨by simp [Lib.compactUpTo]; exact Rising.nil, by simp [Lib.compactUpTo], by simp [Lib.compactUpTo]⟩
  | m + 1, hm => by
    obtain ⟨h1, h2, h3⟩ := compactUpTo_law zs h m (by omega)
    rw [Lib.compactUpTo_succ]
    have hg : zs.toArray[m]! = zs[m] := by simp [getElem!_pos, show m < zs.length by omega]
    rw [hg]
    have hpw : ∀ i j (hi : i < j) (hj : j < zs.length), zs[i] ≤ zs[j] := fun i j hi hj => List.pairwise_iff_getElem.1 h i j (by omega) hj hi
    have h3' : ∀ j (hj : j < zs.length), m ≤ j → zs[m] ≤ zs[j] := fun j hj hmj => by
      rcases Nat.lt_or_ge m j with h4 | h4
      · exact hpw m j h4 hj
      · obtain rfl : m = j := by omega
        exact Int.le_refl _
    have htake : zs.take (m + 1) = zs.take m ++ [zs[m]] := List.take_succ_eq_append_getElem (by omega)
    by_cases hk : Lib.keeps zs.toArray m = true
    · rw [if_pos hk]
      have hlt : ∀ x ∈ Lib.compactUpTo zs.toArray m, x < zs[m] := by
        intro x hx
        by_cases hm0 : m = 0
        · subst hm0; simp [Lib.compactUpTo] at hx
        · have ha := h3 x hx (m - 1) (by omega) (by omega)
          have hb := hpw (m - 1) m (by omega) (by omega)
          have hg1 : zs.toArray[m - 1]! = zs[m - 1] := by simp [getElem!_pos, show m - 1 < zs.length by omega]
          have hne : zs[m] ≠ zs[m - 1] := by
            unfold Lib.keeps at hk
            rw [hg, hg1] at hk
            simpa [hm0] using hk
          omega
      refine ⟨?_, ?_, ?_⟩
      · refine List.pairwise_append.2 ⟨h1, List.pairwise_singleton _ _, ?_⟩
        intro x hx y hy
        rw [List.mem_singleton] at hy
        subst hy
        exact hlt x hx
      · intro x
        rw [htake, List.mem_append, List.mem_append, h2]
      · intro x hx j hj hmj
        rcases List.mem_append.1 hx with hx | hx
        · have := hlt x hx
          have := h3' j hj (by omega)
          omega
        · rw [List.mem_singleton] at hx
          subst hx
          exact h3' j hj (by omega)
    · rw [if_neg hk, List.append_nil]
      have hm0 : m ≠ 0 := by
        intro e
        subst e
        simp [Lib.keeps] at hk
      have hg1 : zs.toArray[m - 1]! = zs[m - 1] := by simp [getElem!_pos, show m - 1 < zs.length by omega]
      have he : zs[m] = zs[m - 1] := by
        unfold Lib.keeps at hk
        rw [hg, hg1] at hk
        simpa [hm0] using hk
      refine ⟨h1, ?_, fun x hx j hj hmj => h3 x hx j hj (by omega)⟩
      intro x
      rw [htake, List.mem_append, h2]
      constructor
      · exact .inl
      · rintro (hx | hx)
        · exact hx
        · rw [List.mem_singleton] at hx
          subst hx
          rw [he]
          rw [List.mem_take_iff_getElem]
          exact ⟨m - 1, by omega, rfl⟩

theorem mergeSort_le (zs : List Int) : (zs.mergeSort fun x y => decide (x ≤ y)).Pairwise (· ≤ ·) := by
  have h := List.pairwise_mergeSort (le := fun x y : Int => decide (x ≤ y)) (by intro a b c; simp; omega) (by intro a b; simp; omega) zs
  exact h.imp (by simp)


/-- A clause in order, no literal twice. -/
def norm (zs : List Int) : List Int := Lib.compact (zs.mergeSort fun x y => decide (x ≤ y))
theorem norm_rising (zs : List Int) : Rising (norm zs) := (compactUpTo_law _ (mergeSort_le zs) _ (Nat.le_refl _)).1
theorem mem_norm {zs : List Int} {x : Int} : x ∈ norm zs ↔ x ∈ zs := by
  have h := (compactUpTo_law _ (mergeSort_le zs) _ (Nat.le_refl _)).2.1 x
  rw [List.take_length] at h
  exact h.trans (List.mem_mergeSort)
theorem norm_nodup (zs : List Int) : (norm zs).Nodup := (norm_rising zs).imp fun h => Int.ne_of_lt h
/-- It holds always. -/
def Taut (zs : List Int) : Prop := ∃ x ∈ zs, -x ∈ zs
theorem taut_holds {n : Nat} {zs : List Int} (hl : ∀ x ∈ zs, Lok n x) (h : Taut zs) (v : Asg) : holds v zs := by
  obtain ⟨x, h1, h2⟩ := h
  cases hx : litB v x with
  | true => exact ⟨x, h1, hx⟩
  | false => exact ⟨-x, h2, by rw [litB_neg v (hl x h1).1, hx]; rfl⟩
theorem norm_one {n : Nat} {zs : List Int} (hl : ∀ x ∈ zs, Lok n x) (h : ¬ Taut (norm zs)) : ((norm zs).map vr).Nodup := by
  have hok : ∀ x ∈ norm zs, Lok n x := fun x hx => hl x (mem_norm.1 hx)
  rw [List.nodup_iff_pairwise_ne, List.pairwise_map]
  refine List.Pairwise.imp_of_mem (fun ha hb hne hv => ?_) (norm_nodup zs)
  rcases vr_eq (hok _ ha) (hok _ hb) hv with e | e
  · exact hne e
  · exact h ⟨_, hb, by rw [← e]; exact ha⟩
theorem holds_norm {v : Asg} {c : Cl} : holds v (norm c) ↔ holds v c := by
  constructor
  · rintro ⟨x, h1, h2⟩; exact ⟨x, mem_norm.1 h1, h2⟩
  · rintro ⟨x, h1, h2⟩; exact ⟨x, mem_norm.2 h1, h2⟩

/-- The guesses. -/
def gsOf (n : Nat) (pr : List Int) : List Int := pr ++ (List.range n).map fun (v : Nat) => -(v : Int) - 1
theorem gsOf_ok {n : Nat} {pr : List Int} (h : ∀ x ∈ pr, Lok n x) : ∀ g ∈ gsOf n pr, Lok n g := fun g hg => by
  rcases List.mem_append.1 hg with h1 | h1
  · exact h g h1
  · obtain ⟨v, hv, rfl⟩ := List.mem_map.1 h1
    have := List.mem_range.1 hv
    unfold Lok
    omega
/-- What covers clauses: they hold always, or by a single literal, or by a clause of the solver's. -/
def Cov (ls cs : List Cl) (sg : List Int) : Prop := ∀ c ∈ ls, Taut (norm c) ∨ (∃ x, norm c = [x] ∧ x ∈ sg) ∨ ∃ c' ∈ cs, ∀ x ∈ c', x ∈ norm c
theorem Cov.nil (cs : List Cl) (sg : List Int) : Cov [] cs sg := fun c h => by cases h
theorem Cov.snoc {ls cs cs' : List Cl} {sg sg' : List Int} (h : Cov ls cs sg) (h1 : ∀ c ∈ cs, c ∈ cs') (h2 : ∀ x ∈ sg, x ∈ sg') {c : Cl} (hc : Taut (norm c) ∨ (∃ x, norm c = [x] ∧ x ∈ sg') ∨ ∃ c' ∈ cs', ∀ x ∈ c', x ∈ norm c) : Cov (ls ++ [c]) cs' sg' := fun d hd => by
  rcases List.mem_append.1 hd with hd | hd
  · rcases h d hd with h3 | ⟨x, h3, h4⟩ | ⟨c', h3, h4⟩
    · exact .inl h3
    · exact .inr (.inl ⟨x, h3, h2 x h4⟩)
    · exact .inr (.inr ⟨c', h1 c' h3, h4⟩)
  · rw [List.mem_singleton.1 hd]
    exact hc
theorem Cov.far {ls cs cs' : List Cl} {sg : List Int} (h : Cov ls cs sg) (hc : ∀ c ∈ cs, ∃ c' ∈ cs', ∀ x ∈ c', x ∈ c) : Cov ls cs' sg := fun d hd => by
  rcases h d hd with h3 | h3 | ⟨c, h3, h4⟩
  · exact .inl h3
  · exact .inr (.inl h3)
  · obtain ⟨c', h5, h6⟩ := hc c h3
    exact .inr (.inr ⟨c', h5, fun x hx => h4 x (h6 x hx)⟩)
/-- Singles stand on the trail, at level 0. -/
def Sgl (sg : List Int) (tr : List En) : Prop := ∀ x ∈ sg, ∃ (q : Nat) (e : En), tr[q]? = some e ∧ e.lit = x ∧ e.lev = 0
theorem Sgl.pre {sg : List Int} {tr tr' : List En} (h : Sgl sg tr) (hp : tr <+: tr') : Sgl sg tr' := fun x hx => by
  obtain ⟨q, e, h1, h2⟩ := h x hx
  obtain ⟨t, rfl⟩ := hp
  exact ⟨q, e, by rw [List.getElem?_append_left (List.getElem?_eq_some_iff.1 h1).1]; exact h1, h2⟩
section
variable {n : Nat} {orig : List Cl} {gs : List Int} {cs : List Cl} {tr : List En} {mk : List Nat}
theorem Sgl.undo {sg : List Int} (h : Sgl sg tr) (ht : Tr n orig gs cs tr mk) {back m : Nat} (hm : mk[back]? = some m) : Sgl sg (tr.take m) := fun x hx => by
  obtain ⟨q, e, h1, h2, h3⟩ := h x hx
  have hq : q < m := (lev_lt ht hm h1).2 (by omega)
  exact ⟨q, e, by rw [List.getElem?_take_of_lt hq]; exact h1, h2, h3⟩
theorem Wl.more {wl : Int → List Nat} (h : Wl cs wl) {c : Cl} (h2 : 2 ≤ c.length) : Wl (cs ++ [c]) (fun x => if x ∈ c.take 2 then wl x ++ [cs.length] else wl x) := fun l => by
  obtain ⟨h3, h4⟩ := h l
  have hlt : ∀ i ∈ wl l, i < cs.length := fun i hi => by
    obtain ⟨d, hd, _⟩ := (h4 i).1 hi
    exact (List.getElem?_eq_some_iff.1 hd).1
  have hget : ∀ i d, (cs ++ [c])[i]? = some d → cs[i]? = some d ∨ (i = cs.length ∧ d = c) := fun i d hd => by
    by_cases hi : i < cs.length
    · rw [List.getElem?_append_left hi] at hd; exact .inl hd
    · have h5 := (List.getElem?_eq_some_iff.1 hd).1
      simp only [List.length_append, List.length_singleton] at h5
      have h6 : i = cs.length := by omega
      subst h6
      simp at hd
      exact .inr ⟨rfl, hd.symm⟩
  have hold : ∀ i d, cs[i]? = some d → (cs ++ [c])[i]? = some d := fun i d hd => by rw [List.getElem?_append_left (List.getElem?_eq_some_iff.1 hd).1]; exact hd
  by_cases hl : l ∈ c.take 2
  · simp only [hl, if_true]
    refine ⟨List.nodup_append.2 ⟨h3, by simp, fun a ha b hb e => ?_⟩, fun i => ?_⟩
    · have h5 := hlt a ha
      have h6 := List.mem_singleton.1 hb
      omega
    · constructor
      · intro hi
        rcases List.mem_append.1 hi with h5 | h5
        · obtain ⟨d, h6, h7⟩ := (h4 i).1 h5
          exact ⟨d, hold i d h6, h7⟩
        · rw [List.mem_singleton.1 h5]
          exact ⟨c, by simp, hl⟩
      · rintro ⟨d, h5, h6⟩
        rcases hget i d h5 with h7 | ⟨h7, _⟩
        · exact List.mem_append_left _ ((h4 i).2 ⟨d, h7, h6⟩)
        · exact List.mem_append_right _ (by rw [h7]; simp)
  · simp only [hl, if_false]
    refine ⟨h3, fun i => (h4 i).trans ?_⟩
    constructor
    · rintro ⟨d, h5, h6⟩
      exact ⟨d, hold i d h5, h6⟩
    · rintro ⟨d, h5, h6⟩
      rcases hget i d h5 with h7 | ⟨_, h7⟩
      · exact ⟨d, h7, h6⟩
      · rw [h7] at h6
        exact absurd h6 hl
theorem Wl.nil : Wl [] (fun _ => []) := fun l => ⟨List.nodup_nil, fun i => ⟨fun h => (by cases h), fun ⟨c, h, _⟩ => (by cases h)⟩⟩
theorem Tr.nil (n : Nat) (orig : List Cl) (gs : List Int) (cs : List Cl) : Tr n orig gs cs [] [] :=
  ⟨fun e h => (by cases h), fun p q e e' h => (by simp at h), fun p e h => (by simp at h), List.Pairwise.nil, fun m h => (by cases h), fun p e h => (by simp at h), fun m h => (by cases h)⟩
theorem Cs.nil (n : Nat) (orig : List Cl) : Cs n orig [] := ⟨fun c h => (by cases h), fun c h => (by cases h), fun c h => (by cases h), fun c h => (by cases h)⟩
theorem Wat.zero (cs : List Cl) (tr : List En) : Wat cs tr 0 := fun c _ a b t _ => ⟨fun q e h => absurd h (Nat.not_lt_zero _), fun q e h => absurd h (Nat.not_lt_zero _)⟩

/-- All guesses that come before place k stand on the trail. -/
def Gone (gs : List Int) (tr : List En) (k : Nat) : Prop := ∀ (i : Nat) (g : Int), i < k → gs[i]? = some g → ∃ q : Nat, At tr q g ∨ At tr q (-g)
theorem Gone.pre {tr tr' : List En} {k : Nat} (h : Gone gs tr k) (hp : tr <+: tr') : Gone gs tr' k := fun i g hi hg => by
  obtain ⟨q, h1⟩ := h i g hi hg
  obtain ⟨t, rfl⟩ := hp
  have : ∀ l, At tr q l → At (tr ++ t) q l := fun l ⟨e, h2, h3⟩ => ⟨e, by rw [List.getElem?_append_left (List.getElem?_eq_some_iff.1 h2).1]; exact h2, h3⟩
  exact ⟨q, h1.imp (this _) (this _)⟩
theorem gone_full {pr : List Int} {k : Nat} (h : Gone (gsOf n pr) tr k) (hk : (gsOf n pr).length ≤ k) : Full n tr := fun u hu => by
  have hi : pr.length + u < (gsOf n pr).length := by unfold gsOf; simp; omega
  have hg : (gsOf n pr)[pr.length + u]? = some (-(u : Int) - 1) := by
    unfold gsOf
    rw [List.getElem?_append_right (by omega), List.getElem?_map, show pr.length + u - pr.length = u by omega, List.getElem?_range hu]
    rfl
  obtain ⟨q, h1⟩ := h _ _ (by omega) hg
  rcases h1 with ⟨e, h2, h3⟩ | ⟨e, h2, h3⟩
  · exact ⟨q, e, h2, by rw [h3]; unfold vr; omega⟩
  · exact ⟨q, e, h2, by rw [h3]; unfold vr; omega⟩

/-- The best values: by them all clauses hold, and any others by which they hold come behind. -/
def Best (n : Nat) (ls : List Cl) (pr : List Int) (v : Asg) : Prop := sat v ls ∧ ∀ u, sat u ls → (∃ i, i < n ∧ v i ≠ u i) → Ahead (gsOf n pr) v u
theorem best_found {pr : List Int} {sg : List Int} (h : Tr n orig (gsOf n pr) cs tr mk) (hc : Cs n orig cs) (hw : Wat cs tr tr.length) (hf : Full n tr) (hok : ∀ c ∈ orig, ∀ x ∈ c, Lok n x) (hp : ∀ x ∈ pr, Lok n x) (hcov : Cov orig cs sg) (hs : Sgl sg tr) : Best n orig pr (asgOf tr) := by
  refine ⟨fun c hcm => ?_, fun u hu ⟨i, hi, hne⟩ => best h hc hf (gsOf_ok hp) hu ?_⟩
  · rcases hcov c hcm with h1 | ⟨x, h1, h2⟩ | ⟨c', h1, h2⟩
    · exact holds_norm.1 (taut_holds (fun x hx => hok c hcm x (mem_norm.1 hx)) h1 _)
    · obtain ⟨q, e, h3, h4, _⟩ := hs x h2
      exact holds_norm.1 ⟨x, by rw [h1]; simp, asg_true h ⟨e, h3, h4⟩⟩
    · obtain ⟨x, h3, h4⟩ := full_sat h hc hw hf c' h1
      exact holds_norm.1 ⟨x, h2 x h3, h4⟩
  · refine ⟨-(i : Int) - 1, ?_, ?_⟩
    · unfold gsOf
      exact List.mem_append_right _ (List.mem_map.2 ⟨i, List.mem_range.2 hi, rfl⟩)
    · have hv : vr (-(i : Int) - 1) = i := by unfold vr; omega
      have : ∀ w : Asg, litB w (-(i : Int) - 1) = !w i := fun w => by
        unfold litB
        rw [hv, if_pos (by omega)]
      rw [this, this]
      intro e
      apply hne
      revert e
      cases asgOf tr i <;> cases u i <;> simp
end
end Sat
end Go.Proofs.Ytkeagjphddcjeaa
