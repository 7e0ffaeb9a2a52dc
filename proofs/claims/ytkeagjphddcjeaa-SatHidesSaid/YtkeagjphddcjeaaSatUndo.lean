/-
  Clauses that are solved, the plain law: going back; clauses whose literals change places; what is learned. A helper text; no conditions beyond those typed.
-/
import Derived.Test.YtkeagjphddcjeaaSatInv
namespace Go.Proofs.Ytkeagjphddcjeaa
set_option linter.unusedVariables false
set_option linter.unusedSimpArgs false
namespace Sat
section
variable {n : Nat} {orig : List Cl} {gs : List Int} {cs : List Cl} {tr : List En} {mk : List Nat}

theorem at_take {m q : Nat} {l : Int} (h : At tr q l) (hq : q < m) : At (tr.take m) q l := by
  obtain ⟨e, h1, h2⟩ := h
  exact ⟨e, by rw [List.getElem?_take_of_lt hq]; exact h1, h2⟩
theorem get_take {m q : Nat} {e : En} (h : (tr.take m)[q]? = some e) : tr[q]? = some e ∧ q < m := by
  have hlt := (List.getElem?_eq_some_iff.1 h).1
  rw [List.length_take] at hlt
  have hq : q < m := by omega
  rw [List.getElem?_take_of_lt hq] at h
  exact ⟨h, hq⟩
theorem of_take {m q : Nat} {l : Int} (h : At (tr.take m) q l) : At tr q l ∧ q < m := by
  obtain ⟨e, h1, h2⟩ := h
  obtain ⟨h3, h4⟩ := get_take h1
  exact ⟨⟨e, h3, h2⟩, h4⟩
/-- Levels below a mark. -/
theorem levAt_take (hs : mk.Pairwise (· < ·)) {back m p : Nat} (hm : mk[back]? = some m) (hp : p < m) : levAt (mk.take back) p = levAt mk p := by
  unfold levAt
  have hsplit : mk = mk.take back ++ mk.drop back := (List.take_append_drop back mk).symm
  have hz : ((mk.drop back).filter fun x => decide (x ≤ p)) = [] := by
    rw [List.filter_eq_nil_iff]
    intro x hx
    obtain ⟨j, hj⟩ := List.mem_iff_getElem?.1 hx
    rw [List.getElem?_drop] at hj
    have hge : m ≤ x := by
      by_cases h0 : j = 0
      · subst h0
        rw [Nat.add_zero, hm] at hj
        cases hj
        exact Nat.le_refl _
      · have h1 := (List.getElem?_eq_some_iff.1 hm).1
        have h2 := (List.getElem?_eq_some_iff.1 hj).1
        have := List.pairwise_iff_getElem.1 hs back (back + j) h1 h2 (by omega)
        rw [(List.getElem?_eq_some_iff.1 hm).2, (List.getElem?_eq_some_iff.1 hj).2] at this
        exact Nat.le_of_lt this
    simp
    omega
  conv => rhs; rw [hsplit, List.filter_append, hz, List.append_nil]
/-- The level of a literal that comes ahead of a mark; and behind it. -/
theorem lev_lt (h : Tr n orig gs cs tr mk) {back m p : Nat} {e : En} (hm : mk[back]? = some m) (he : tr[p]? = some e) : p < m ↔ e.lev ≤ back := by
  rw [h.lev p e he]
  constructor
  · intro hp
    rw [← levAt_take h.sorted hm hp]
    exact Nat.le_trans (levAt_le _ _) (List.length_take_le _ _)
  · intro hle
    rcases Nat.lt_or_ge p m with h1 | h1
    · exact h1
    · exfalso
      have hb := (List.getElem?_eq_some_iff.1 hm).1
      have : back + 1 ≤ levAt mk p := by
        unfold levAt
        have hsub : mk.take (back + 1) = (mk.take (back + 1)).filter fun x => decide (x ≤ p) := by
          rw [List.filter_eq_self.2]
          intro x hx
          obtain ⟨j, hj⟩ := List.mem_iff_getElem?.1 hx
          have hj1 := (List.getElem?_eq_some_iff.1 hj).1
          rw [List.length_take] at hj1
          have hj2 : j < back + 1 := by omega
          rw [List.getElem?_take_of_lt hj2] at hj
          have hle2 : x ≤ m := by
            by_cases h0 : j = back
            · subst h0
              rw [hm] at hj
              cases hj
              exact Nat.le_refl _
            · have h2 := (List.getElem?_eq_some_iff.1 hj).1
              have := List.pairwise_iff_getElem.1 h.sorted j back h2 hb (by omega)
              rw [(List.getElem?_eq_some_iff.1 hm).2, (List.getElem?_eq_some_iff.1 hj).2] at this
              exact Nat.le_of_lt this
          exact decide_eq_true (by omega)
        have hlen : (mk.take (back + 1)).length = back + 1 := by rw [List.length_take]; omega
        calc back + 1 = ((mk.take (back + 1)).filter fun x => decide (x ≤ p)).length := by rw [← hsub, hlen]
          _ ≤ (mk.filter fun x => decide (x ≤ p)).length := ((List.take_sublist _ _).filter _).length_le
      omega
/-- Going back. -/
theorem Tr.undo (h : Tr n orig gs cs tr mk) {back m : Nat} (hm : mk[back]? = some m) : Tr n orig gs cs (tr.take m) (mk.take back) := by
  have hml : m < tr.length := h.inn m (List.mem_of_getElem? hm)
  have hmem : ∀ x ∈ mk.take back, x ∈ mk ∧ x < m := fun x hx => by
    obtain ⟨j, hj⟩ := List.mem_iff_getElem?.1 hx
    have hj1 := (List.getElem?_eq_some_iff.1 hj).1
    rw [List.length_take] at hj1
    have hj2 : j < back := by omega
    rw [List.getElem?_take_of_lt hj2] at hj
    refine ⟨List.mem_of_getElem? hj, ?_⟩
    have h1 := (List.getElem?_eq_some_iff.1 hm).1
    have h2 := (List.getElem?_eq_some_iff.1 hj).1
    have := List.pairwise_iff_getElem.1 h.sorted j back h2 h1 hj2
    rw [(List.getElem?_eq_some_iff.1 hm).2, (List.getElem?_eq_some_iff.1 hj).2] at this
    exact this
  have hnot : ∀ p, p < m → p ∉ mk.take back → p ∉ mk := fun p hp hn hmk => by
    obtain ⟨j, hj⟩ := List.mem_iff_getElem?.1 hmk
    by_cases hjb : j < back
    · exact hn (List.mem_of_getElem? (i := j) (by rw [List.getElem?_take_of_lt hjb]; exact hj))
    · have h1 := (List.getElem?_eq_some_iff.1 hm).1
      have h2 := (List.getElem?_eq_some_iff.1 hj).1
      by_cases h0 : j = back
      · subst h0
        rw [hm] at hj
        cases hj
        omega
      · have := List.pairwise_iff_getElem.1 h.sorted back j h1 h2 (by omega)
        rw [(List.getElem?_eq_some_iff.1 hm).2, (List.getElem?_eq_some_iff.1 hj).2] at this
        omega
  refine ⟨fun e he => h.ok e (List.mem_of_mem_take he), fun p q e e' hp hq hv => h.one p q e e' (get_take hp).1 (get_take hq).1 hv, fun p e he => ?_, h.sorted.sublist (List.take_sublist _ _), fun x hx => ?_, fun p e he hp => ?_, fun x hx => ?_⟩
  · obtain ⟨h1, h2⟩ := get_take he
    rw [levAt_take h.sorted hm h2]
    exact h.lev p e h1
  · rw [List.length_take]
    have := (hmem x hx).2
    omega
  · obtain ⟨h1, h2⟩ := get_take he
    rcases h.why p e h1 (hnot p h2 hp) with h3 | ⟨i, c, a1, a2, a3, a4⟩
    · exact .inl h3
    · refine .inr ⟨i, c, a1, a2, a3, fun x hx hne => ?_⟩
      obtain ⟨q, hq, hat⟩ := a4 x hx hne
      exact ⟨q, hq, at_take hat (by omega)⟩
  · obtain ⟨hx1, hx2⟩ := hmem x hx
    obtain ⟨k, g, a1, a2, a3⟩ := h.dec x hx1
    refine ⟨k, g, a1, at_take a2 hx2, fun i g' hi hg => ?_⟩
    obtain ⟨q, hq, hat⟩ := a3 i g' hi hg
    exact ⟨q, hq, hat.imp (fun hh => at_take hh (by omega)) (fun hh => at_take hh (by omega))⟩

/-- A clause whose literals have changed places. -/
theorem Tr.perm (h : Tr n orig gs cs tr mk) {i : Nat} {c c' : Cl} (hc : cs[i]? = some c) (hp : ∀ x, x ∈ c' ↔ x ∈ c) : Tr n orig gs (cs.set i c') tr mk := by
  refine { h with why := fun p e he hm => ?_ }
  rcases h.why p e he hm with h1 | ⟨j, d, a1, a2, a3, a4⟩
  · exact .inl h1
  · right
    by_cases e1 : j = i
    · subst e1
      rw [hc] at a2
      cases a2
      exact ⟨j, c', a1, by rw [List.getElem?_set_self (List.getElem?_eq_some_iff.1 hc).1], (hp _).2 a3, fun x hx => a4 x ((hp x).1 hx)⟩
    · exact ⟨j, d, a1, by rw [List.getElem?_set_ne (Ne.symm e1)]; exact a2, a3, a4⟩
theorem Cs.perm (h : Cs n orig cs) {i : Nat} {c c' : Cl} (hc : cs[i]? = some c) (hp : c'.Perm c) : Cs n orig (cs.set i c') := by
  have hcm := List.mem_of_getElem? hc
  have hcase : ∀ d ∈ cs.set i c', d = c' ∨ d ∈ cs := fun d hd => by
    rcases List.mem_or_eq_of_mem_set hd with h1 | h1
    · exact .inr h1
    · exact .inl h1
  refine ⟨fun d hd => ?_, fun d hd => ?_, fun d hd => ?_, fun d hd => ?_⟩
  · rcases hcase d hd with rfl | h1
    · intro v hv
      obtain ⟨l, hl, hb⟩ := h.ent c hcm v hv
      exact ⟨l, hp.mem_iff.2 hl, hb⟩
    · exact h.ent d h1
  · rcases hcase d hd with rfl | h1
    · rw [hp.length_eq]
      exact h.two c hcm
    · exact h.two d h1
  · rcases hcase d hd with rfl | h1
    · exact fun x hx => h.ok c hcm x (hp.mem_iff.1 hx)
    · exact h.ok d h1
  · rcases hcase d hd with rfl | h1
    · exact (hp.map vr).nodup_iff.2 (h.one c hcm)
    · exact h.one d h1
/-- A clause more. -/
theorem Tr.more (h : Tr n orig gs cs tr mk) (c : Cl) : Tr n orig gs (cs ++ [c]) tr mk := by
  refine { h with why := fun p e he hm => ?_ }
  rcases h.why p e he hm with h1 | ⟨j, d, a1, a2, a3, a4⟩
  · exact .inl h1
  · exact .inr ⟨j, d, a1, by rw [List.getElem?_append_left (List.getElem?_eq_some_iff.1 a2).1]; exact a2, a3, a4⟩
theorem Cs.more (h : Cs n orig cs) {c : Cl} (h1 : Ent orig c) (h2 : 2 ≤ c.length) (h3 : ∀ x ∈ c, Lok n x) (h4 : (c.map vr).Nodup) : Cs n orig (cs ++ [c]) := by
  refine ⟨fun d hd => ?_, fun d hd => ?_, fun d hd => ?_, fun d hd => ?_⟩ <;> rcases List.mem_append.1 hd with h5 | h5
  · exact h.ent d h5
  · rw [List.mem_singleton.1 h5]; exact h1
  · exact h.two d h5
  · rw [List.mem_singleton.1 h5]; exact h2
  · exact h.ok d h5
  · rw [List.mem_singleton.1 h5]; exact h3
  · exact h.one d h5
  · rw [List.mem_singleton.1 h5]; exact h4

/-- Two watched literals: of which one that is gone (its other one stands ahead of a place) leaves the other one true, no later. -/
def Watched (tr : List En) (h : Nat) (a b : Int) : Prop := ∀ q e, q < h → tr[q]? = some e → e.lit = -a → ∃ (q' : Nat) (e' : En), tr[q']? = some e' ∧ e'.lit = b ∧ e'.lev ≤ e.lev
def Wat (cs : List Cl) (tr : List En) (h : Nat) : Prop := ∀ c ∈ cs, ∀ (a b : Int) (t : Cl), c = a :: b :: t → Watched tr h a b ∧ Watched tr h b a
theorem Watched.mono {a b : Int} {h h' : Nat} (w : Watched tr h a b) (hh : h' ≤ h) : Watched tr h' a b := fun q e hq => w q e (Nat.lt_of_lt_of_le hq hh)
theorem Watched.snoc {a b : Int} {h : Nat} {e : En} (w : Watched tr h a b) (hh : h ≤ tr.length) : Watched (tr ++ [e]) h a b := fun q x hq hx hl => by
  rw [List.getElem?_append_left (by omega)] at hx
  obtain ⟨q', e', h1, h2, h3⟩ := w q x hq hx hl
  exact ⟨q', e', by rw [List.getElem?_append_left (List.getElem?_eq_some_iff.1 h1).1]; exact h1, h2, h3⟩
theorem Wat.snoc {h : Nat} {e : En} (w : Wat cs tr h) (hh : h ≤ tr.length) : Wat cs (tr ++ [e]) h := fun c hc a b t hct => ⟨(w c hc a b t hct).1.snoc hh, (w c hc a b t hct).2.snoc hh⟩
theorem Watched.undo (h : Tr n orig gs cs tr mk) {a b : Int} {back m : Nat} (hm : mk[back]? = some m) {k : Nat} (w : Watched tr k a b) (hk : m ≤ k) : Watched (tr.take m) m a b := fun q e hq he hl => by
  obtain ⟨h1, h2⟩ := get_take he
  obtain ⟨q', e', a1, a2, a3⟩ := w q e (by omega) h1 hl
  have hq' : q' < m := (lev_lt h hm a1).2 (Nat.le_trans a3 ((lev_lt h hm h1).1 h2))
  exact ⟨q', e', by rw [List.getElem?_take_of_lt hq']; exact a1, a2, a3⟩
theorem Wat.undo (h : Tr n orig gs cs tr mk) {back m : Nat} (hm : mk[back]? = some m) {k : Nat} (w : Wat cs tr k) (hk : m ≤ k) : Wat cs (tr.take m) m := fun c hc a b t hct => ⟨(w c hc a b t hct).1.undo h hm hk, (w c hc a b t hct).2.undo h hm hk⟩
end
end Sat
end Go.Proofs.Ytkeagjphddcjeaa
