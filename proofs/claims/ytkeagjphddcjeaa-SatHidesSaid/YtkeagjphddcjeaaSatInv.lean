/-
  Clauses that are solved, the plain law: trail, levels, reasons, what stays true. A helper text; no conditions beyond those typed.
-/
import Derived.Lib.Hide
namespace Go.Proofs.Ytkeagjphddcjeaa
set_option linter.unusedVariables false
set_option linter.unusedSimpArgs false
namespace Sat

abbrev Cl := List Int
abbrev Asg := Nat → Bool
def vr (l : Int) : Nat := l.natAbs - 1
def Lok (n : Nat) (l : Int) : Prop := l ≠ 0 ∧ l.natAbs ≤ n
theorem Lok.lt {n : Nat} {l : Int} (h : Lok n l) : vr l < n := by
  have := h.1
  have := h.2
  unfold vr
  omega
theorem Lok.neg {n : Nat} {l : Int} (h : Lok n l) : Lok n (-l) := ⟨by have := h.1; omega, by rw [Int.natAbs_neg]; exact h.2⟩
theorem vr_neg (l : Int) : vr (-l) = vr l := by
  unfold vr
  rw [Int.natAbs_neg]
theorem vr_eq {n : Nat} {a b : Int} (ha : Lok n a) (hb : Lok n b) (h : vr a = vr b) : a = b ∨ a = -b := by
  have h1 := ha.1
  have h2 := hb.1
  unfold vr at h
  omega
def litB (v : Asg) (l : Int) : Bool := if l < 0 then !v (vr l) else v (vr l)
theorem litB_neg (v : Asg) {l : Int} (h : l ≠ 0) : litB v (-l) = !litB v l := by
  unfold litB
  rw [vr_neg]
  by_cases h1 : l < 0
  · rw [if_neg (by omega), if_pos h1]
    simp
  · rw [if_pos (by omega), if_neg h1]
def holds (v : Asg) (c : Cl) : Prop := ∃ l ∈ c, litB v l = true
def sat (v : Asg) (cs : List Cl) : Prop := ∀ c ∈ cs, holds v c
def Ent (orig : List Cl) (c : Cl) : Prop := ∀ v, sat v orig → holds v c

/-- An entry of the trail. -/
structure En where
  lit : Int
  lev : Nat
  why : Int
/-- A literal holds at a place of the trail. -/
def At (tr : List En) (q : Nat) (l : Int) : Prop := ∃ e, tr[q]? = some e ∧ e.lit = l
theorem At.lt {tr : List En} {q : Nat} {l : Int} (h : At tr q l) : q < tr.length := by
  obtain ⟨e, h, _⟩ := h
  exact (List.getElem?_eq_some_iff.1 h).1
def levAt (mk : List Nat) (p : Nat) : Nat := (mk.filter fun m => decide (m ≤ p)).length
theorem levAt_mono (mk : List Nat) {p q : Nat} (h : p ≤ q) : levAt mk p ≤ levAt mk q := by
  unfold levAt
  induction mk with
  | nil => exact Nat.le_refl _
  | cons m mk ih =>
    rw [List.filter_cons, List.filter_cons]
    by_cases h1 : m ≤ p
    · have h2 : m ≤ q := Nat.le_trans h1 h
      simp [h1, h2]
      omega
    · by_cases h2 : m ≤ q
      · simp [h1, h2]
        omega
      · simp [h1, h2]
        exact ih
theorem levAt_le (mk : List Nat) (p : Nat) : levAt mk p ≤ mk.length := List.length_filter_le _ _

/-- What always holds of the trail. -/
structure Tr (n : Nat) (orig : List Cl) (gs : List Int) (cs : List Cl) (tr : List En) (mk : List Nat) : Prop where
  ok : ∀ e ∈ tr, Lok n e.lit
  one : ∀ (p q : Nat) (e e' : En), tr[p]? = some e → tr[q]? = some e' → vr e.lit = vr e'.lit → p = q
  lev : ∀ (p : Nat) (e : En), tr[p]? = some e → e.lev = levAt mk p
  sorted : mk.Pairwise (· < ·)
  inn : ∀ m ∈ mk, m < tr.length
  why : ∀ (p : Nat) (e : En), tr[p]? = some e → p ∉ mk → (e.why < 0 ∧ e.lev = 0 ∧ Ent orig [e.lit]) ∨ (∃ (i : Nat) (c : Cl), e.why = (i : Int) ∧ cs[i]? = some c ∧ e.lit ∈ c ∧ ∀ x ∈ c, x ≠ e.lit → ∃ q : Nat, q < p ∧ At tr q (-x))
  dec : ∀ m ∈ mk, ∃ (k : Nat) (g : Int), gs[k]? = some g ∧ At tr m g ∧ ∀ (i : Nat) (g' : Int), i < k → gs[i]? = some g' → ∃ q : Nat, q < m ∧ (At tr q g' ∨ At tr q (-g'))
/-- What always holds of the clauses. -/
structure Cs (n : Nat) (orig : List Cl) (cs : List Cl) : Prop where
  ent : ∀ c ∈ cs, Ent orig c
  two : ∀ c ∈ cs, 2 ≤ c.length
  ok : ∀ c ∈ cs, ∀ x ∈ c, Lok n x
  one : ∀ c ∈ cs, (c.map vr).Nodup

section
variable {n : Nat} {orig : List Cl} {gs : List Int} {cs : List Cl} {tr : List En} {mk : List Nat}

/-- The decisions that are made up to a level. -/
def Decs (tr : List En) (mk : List Nat) (lv : Nat) (v : Asg) : Prop := ∀ m ∈ mk, levAt mk m ≤ lv → ∀ l, At tr m l → litB v l = true
/-- A literal of the trail follows from the clauses and the decisions up to its level. -/
theorem follows (h : Tr n orig gs cs tr mk) (hc : Cs n orig cs) {v : Asg} (hv : sat v orig) : ∀ (p : Nat) (e : En), tr[p]? = some e → Decs tr mk e.lev v → litB v e.lit = true := by
  intro p
  induction p using Nat.strongRecOn with
  | ind p ih =>
    intro e he hd
    by_cases hm : p ∈ mk
    · exact hd p hm (by rw [h.lev p e he]; exact Nat.le_refl _) e.lit ⟨e, he, rfl⟩
    · rcases h.why p e he hm with ⟨_, _, h3⟩ | ⟨i, c, _, hi, hl, hx⟩
      · obtain ⟨l, hl, hb⟩ := h3 v hv
        simp only [List.mem_singleton] at hl
        rw [← hl]
        exact hb
      · have hcm : c ∈ cs := List.mem_of_getElem? hi
        obtain ⟨l, hl2, hb⟩ := hc.ent c hcm v hv
        by_cases e1 : l = e.lit
        · rw [← e1]; exact hb
        · obtain ⟨q, hq, e', he', h5⟩ := hx l hl2 e1
          have h6 := ih q hq e' he' (fun m hm2 hle l' hl' => hd m hm2 (by
            rw [h.lev q e' he'] at hle
            rw [h.lev p e he]
            exact Nat.le_trans hle (levAt_mono mk (Nat.le_of_lt hq))) l' hl')
          rw [h5, litB_neg v (hc.ok c hcm l hl2).1, hb] at h6
          cases h6
/-- At level 0: from the clauses alone. -/
theorem follows0 (h : Tr n orig gs cs tr mk) (hc : Cs n orig cs) {v : Asg} (hv : sat v orig) {p : Nat} {e : En} (he : tr[p]? = some e) (h0 : e.lev = 0) : litB v e.lit = true := by
  refine follows h hc hv p e he fun m hm hle => ?_
  rw [h0] at hle
  have : 0 < levAt mk m := by
    unfold levAt
    exact List.length_pos_iff.2 (fun e => by
      have hmem : m ∈ mk.filter fun m' => decide (m' ≤ m) := List.mem_filter.2 ⟨hm, by simp⟩
      rw [e] at hmem
      cases hmem)
  omega
/-- A literal and its other do not both hold. -/
theorem not_both (h : Tr n orig gs cs tr mk) {p q : Nat} {l : Int} (h1 : At tr p l) (h2 : At tr q (-l)) : False := by
  obtain ⟨e, he, rfl⟩ := h1
  obtain ⟨e', he', h3⟩ := h2
  have hok := h.ok e (List.mem_of_getElem? he)
  have := h.one p q e e' he he' (by rw [h3, vr_neg])
  subst this
  rw [he] at he'
  cases he'
  have := hok.1
  omega
theorem at_one (h : Tr n orig gs cs tr mk) {p q : Nat} {l : Int} (h1 : At tr p l) (h2 : At tr q l) : p = q := by
  obtain ⟨e, he, rfl⟩ := h1
  obtain ⟨e', he', h3⟩ := h2
  exact h.one p q e e' he he' (by rw [h3])

theorem at_snoc {e : En} {q : Nat} {l : Int} (h : At tr q l) : At (tr ++ [e]) q l := by
  obtain ⟨e', h1, h2⟩ := h
  exact ⟨e', by rw [List.getElem?_append_left (List.getElem?_eq_some_iff.1 h1).1]; exact h1, h2⟩
theorem get_snoc {e e' : En} {p : Nat} (h : (tr ++ [e])[p]? = some e') : tr[p]? = some e' ∨ (p = tr.length ∧ e' = e) := by
  by_cases hp : p < tr.length
  · rw [List.getElem?_append_left hp] at h
    exact .inl h
  · have := (List.getElem?_eq_some_iff.1 h).1
    simp only [List.length_append, List.length_singleton] at this
    have hp2 : p = tr.length := by omega
    subst hp2
    simp at h
    exact .inr ⟨rfl, h.symm⟩
/-- A literal is open. -/
def Open (tr : List En) (l : Int) : Prop := ∀ e ∈ tr, vr e.lit ≠ vr l

/-- A literal more that a clause asks (or, at level 0, that follows). -/
theorem Tr.asked (h : Tr n orig gs cs tr mk) {l : Int} (hl : Lok n l) (ho : Open tr l) {why : Int}
    (hw : (why < 0 ∧ mk = [] ∧ Ent orig [l]) ∨ (∃ (i : Nat) (c : Cl), why = (i : Int) ∧ cs[i]? = some c ∧ l ∈ c ∧ ∀ x ∈ c, x ≠ l → ∃ q, At tr q (-x))) : Tr n orig gs cs (tr ++ [⟨l, mk.length, why⟩]) mk := by
  have hlev : levAt mk tr.length = mk.length := by
    unfold levAt
    rw [List.filter_eq_self.2]
    intro m hm
    exact decide_eq_true (Nat.le_of_lt (h.inn m hm))
  refine ⟨fun e he => ?_, fun p q e e' hp hq hv => ?_, fun p e he => ?_, h.sorted, fun m hm => ?_, fun p e he hm => ?_, fun m hm => ?_⟩
  · rcases List.mem_append.1 he with h1 | h1
    · exact h.ok e h1
    · simp only [List.mem_singleton] at h1
      subst h1
      exact hl
  · rcases get_snoc hp with h1 | ⟨h1, h1'⟩
    · rcases get_snoc hq with h2 | ⟨h2, h2'⟩
      · exact h.one p q e e' h1 h2 hv
      · subst h2'
        exact absurd hv (ho e (List.mem_of_getElem? h1))
    · rcases get_snoc hq with h2 | ⟨h2, h2'⟩
      · subst h1'
        exact absurd hv.symm (ho e' (List.mem_of_getElem? h2))
      · rw [h1, h2]
  · rcases get_snoc he with h1 | ⟨h1, h1'⟩
    · exact h.lev p e h1
    · subst h1 h1'
      exact hlev.symm
  · have := h.inn m hm
    simp only [List.length_append, List.length_singleton]
    omega
  · rcases get_snoc he with h1 | ⟨h1, h1'⟩
    · rcases h.why p e h1 hm with h2 | ⟨i, c, a1, a2, a3, a4⟩
      · exact .inl h2
      · refine .inr ⟨i, c, a1, a2, a3, fun x hx hne => ?_⟩
        obtain ⟨q, hq, hat⟩ := a4 x hx hne
        exact ⟨q, hq, at_snoc hat⟩
    · subst h1 h1'
      rcases hw with ⟨a1, a2, a3⟩ | ⟨i, c, a1, a2, a3, a4⟩
      · exact .inl ⟨a1, by rw [a2]; rfl, a3⟩
      · refine .inr ⟨i, c, a1, a2, a3, fun x hx hne => ?_⟩
        obtain ⟨q, hat⟩ := a4 x hx hne
        exact ⟨q, hat.lt, at_snoc hat⟩
  · obtain ⟨k, g, a1, a2, a3⟩ := h.dec m hm
    refine ⟨k, g, a1, at_snoc a2, fun i g' hi hg => ?_⟩
    obtain ⟨q, hq, hat⟩ := a3 i g' hi hg
    exact ⟨q, hq, hat.imp at_snoc at_snoc⟩
/-- A guess. -/
theorem Tr.guess (h : Tr n orig gs cs tr mk) {k : Nat} {g : Int} (hg : gs[k]? = some g) (hl : Lok n g) (ho : Open tr g) (hb : ∀ (i : Nat) (g' : Int), i < k → gs[i]? = some g' → ∃ q : Nat, At tr q g' ∨ At tr q (-g')) :
    Tr n orig gs cs (tr ++ [⟨g, mk.length + 1, -1⟩]) (mk ++ [tr.length]) := by
  have hold : ∀ p, p < tr.length → levAt (mk ++ [tr.length]) p = levAt mk p := fun p hp => by
    unfold levAt
    rw [List.filter_append]
    have : ([tr.length].filter fun m => decide (m ≤ p)) = [] := by
      rw [List.filter_cons, if_neg (by simp; omega)]
      rfl
    rw [this, List.append_nil]
  have hlev : levAt (mk ++ [tr.length]) tr.length = mk.length + 1 := by
    unfold levAt
    rw [List.filter_eq_self.2, List.length_append, List.length_singleton]
    intro m hm
    rcases List.mem_append.1 hm with h1 | h1
    · exact decide_eq_true (Nat.le_of_lt (h.inn m h1))
    · simp only [List.mem_singleton] at h1
      subst h1
      exact decide_eq_true (Nat.le_refl _)
  have hlt : ∀ p e, tr[p]? = some e → p < tr.length := fun p e he => (List.getElem?_eq_some_iff.1 he).1
  refine ⟨fun e he => ?_, fun p q e e' hp hq hv => ?_, fun p e he => ?_, ?_, fun m hm => ?_, fun p e he hm => ?_, fun m hm => ?_⟩
  · rcases List.mem_append.1 he with h1 | h1
    · exact h.ok e h1
    · simp only [List.mem_singleton] at h1
      subst h1
      exact hl
  · rcases get_snoc hp with h1 | ⟨h1, h1'⟩
    · rcases get_snoc hq with h2 | ⟨h2, h2'⟩
      · exact h.one p q e e' h1 h2 hv
      · subst h2'
        exact absurd hv (ho e (List.mem_of_getElem? h1))
    · rcases get_snoc hq with h2 | ⟨h2, h2'⟩
      · subst h1'
        exact absurd hv.symm (ho e' (List.mem_of_getElem? h2))
      · rw [h1, h2]
  · rcases get_snoc he with h1 | ⟨h1, h1'⟩
    · rw [hold p (hlt p e h1)]
      exact h.lev p e h1
    · subst h1 h1'
      exact hlev.symm
  · rw [List.pairwise_append]
    refine ⟨h.sorted, List.pairwise_singleton _ _, fun a ha b hb => ?_⟩
    simp only [List.mem_singleton] at hb
    subst hb
    exact h.inn a ha
  · simp only [List.length_append, List.length_singleton]
    rcases List.mem_append.1 hm with h1 | h1
    · have := h.inn m h1
      omega
    · simp only [List.mem_singleton] at h1
      omega
  · rcases get_snoc he with h1 | ⟨h1, h1'⟩
    · rcases h.why p e h1 (fun hh => hm (List.mem_append_left _ hh)) with h2 | ⟨i, c, a1, a2, a3, a4⟩
      · exact .inl h2
      · refine .inr ⟨i, c, a1, a2, a3, fun x hx hne => ?_⟩
        obtain ⟨q, hq, hat⟩ := a4 x hx hne
        exact ⟨q, hq, at_snoc hat⟩
    · exact absurd (List.mem_append_right _ (by rw [h1]; exact List.mem_singleton_self _)) hm
  · rcases List.mem_append.1 hm with h1 | h1
    · obtain ⟨k', g', a1, a2, a3⟩ := h.dec m h1
      refine ⟨k', g', a1, at_snoc a2, fun i g'' hi hg' => ?_⟩
      obtain ⟨q, hq, hat⟩ := a3 i g'' hi hg'
      exact ⟨q, hq, hat.imp at_snoc at_snoc⟩
    · simp only [List.mem_singleton] at h1
      subst h1
      refine ⟨k, g, hg, ⟨⟨g, mk.length + 1, -1⟩, by simp, rfl⟩, fun i g' hi hg' => ?_⟩
      obtain ⟨q, hat⟩ := hb i g' hi hg'
      exact ⟨q, hat.elim At.lt At.lt, hat.imp at_snoc at_snoc⟩
end
end Sat
end Go.Proofs.Ytkeagjphddcjeaa
