/-
  Clauses that are solved, the plain law: learn's loops. A helper text; no conditions beyond those typed.
-/
import Derived.Test.YtkeagjphddcjeaaSatProp
namespace Go.Proofs.Ytkeagjphddcjeaa
set_option linter.unusedVariables false
set_option linter.unusedSimpArgs false
namespace Sat
theorem perm_set {x gone : Int} : ∀ {t : List Int} {j : Nat} (hj : j < t.length), t[j] = x → (x :: t.set j gone).Perm (gone :: t)
  | [], _, hj, _ => absurd hj (Nat.not_lt_zero _)
  | y :: t, 0, _, h => by
    have e : y = x := h
    subst e
    exact List.Perm.swap _ _ _
  | y :: t, j + 1, hj, h => by
    have ih := perm_set (gone := gone) (t := t) (j := j) (by simpa using hj) (by simpa using h)
    exact ((List.Perm.swap y x _).trans (ih.cons y)).trans (List.Perm.swap gone y _)
section
variable {n : Nat} {orig : List Cl} {gs : List Int} {cs : List Cl} {tr : List En} {mk : List Nat}
theorem lev_last (h : Tr n orig gs cs tr mk) {k : Nat} (hk : ∀ m ∈ mk, m ≤ k) {e : En} (he : tr[k]? = some e) : e.lev = mk.length := by
  rw [h.lev k e he]
  unfold levAt
  rw [List.filter_eq_self.2 fun m hm => decide_eq_true (hk m hm)]
theorem mk_len (h : Tr n orig gs cs tr mk) : mk.length ≤ tr.length := by
  have hnd : mk.Nodup := h.sorted.imp fun h => Nat.ne_of_lt h
  have := List.Nodup.length_le_of_subset hnd (l₂ := List.range tr.length) fun m hm => List.mem_range.2 (h.inn m hm)
  simpa using this
/-- There is, or comes, a literal of the last level. -/
def LK (tr : List En) (cur : Nat) (seen : Nat → Bool) (opn : Nat) (c : Cl) (l : Int) : Prop := 0 < opn ∨ ∃ x ∈ c, x ≠ l ∧ seen (vr x) = false ∧ ∃ (q : Nat) (e : En), tr[q]? = some e ∧ vr e.lit = vr x ∧ e.lev = cur
theorem lev_same (h : Tr n orig gs cs tr mk) {q p : Nat} {e e' : En} (he : tr[q]? = some e) (he' : tr[p]? = some e') (hv : vr e.lit = vr e'.lit) : e.lev = e'.lev := by
  have := h.one q p e e' he he' hv
  subst this
  rw [he] at he'
  cases he'
  rfl
theorem LK.pass (h : Tr n orig gs cs tr mk) (hm0 : mk ≠ []) {seen : Nat → Bool} {opn : Nat} {x : Int} {c : Cl} {l : Int} (k : LK tr mk.length seen opn (x :: c) l)
    (hp : x = l ∨ seen (vr x) = true ∨ ∃ (q : Nat) (e : En), tr[q]? = some e ∧ vr e.lit = vr x ∧ e.lev = 0) : LK tr mk.length seen opn c l := by
  rcases k with k | ⟨y, hy, h1, h2, q, e, h3, h4, h5⟩
  · exact .inl k
  · rcases List.mem_cons.1 hy with e1 | hy
    · exfalso
      subst e1
      rcases hp with hp | hp | ⟨q', e', h6, h7, h8⟩
      · exact h1 hp
      · rw [h2] at hp; cases hp
      · have := lev_same h h3 h6 (by rw [h4, h7])
        have := List.length_pos_iff.2 hm0
        omega
    · exact .inr ⟨y, hy, h1, h2, q, e, h3, h4, h5⟩
theorem LK.note (h : Tr n orig gs cs tr mk) {seen : Nat → Bool} {opn : Nat} {x : Int} {c : Cl} {l : Int} (k : LK tr mk.length seen opn (x :: c) l) {q : Nat} {e : En} (he : tr[q]? = some e) (hv : vr e.lit = vr x) (hl : e.lev ≠ mk.length) :
    LK tr mk.length (fun v => if v = vr x then true else seen v) opn c l := by
  rcases k with k | ⟨y, hy, h1, h2, q', e', h3, h4, h5⟩
  · exact .inl k
  · have hne : vr y ≠ vr x := fun e1 => by
      have := lev_same h h3 he (by rw [h4, e1, hv])
      omega
    rcases List.mem_cons.1 hy with e1 | hy
    · exact absurd (by rw [e1]) hne
    · exact .inr ⟨y, hy, h1, by simp only [hne, if_false]; exact h2, q', e', h3, h4, h5⟩
theorem LJ.len (h : Tr n orig gs cs tr mk) {seen : Nat → Bool} {out : List Int} {opn a1 : Nat} {c : Cl} {l : Int} (j : LJ orig tr mk.length seen out opn a1 c l) : out.length ≤ n ∧ opn ≤ n ∧ ∀ x ∈ out, Lok n x := by
  have hok : ∀ x ∈ out, Lok n x := fun x hx => by
    obtain ⟨q, e, he, hl, _⟩ := j.outs x hx
    have := (h.ok e (List.mem_of_getElem? he)).neg
    rwa [hl, Int.neg_neg] at this
  refine ⟨?_, ?_, hok⟩
  · have h1 := List.Nodup.length_le_of_subset j.nod (l₂ := List.range n) fun x hx => by
      obtain ⟨y, hy, rfl⟩ := List.mem_map.1 hx
      exact List.mem_range.2 (hok y hy).lt
    simpa using h1
  · have h1 := cntS_le tr mk.length seen a1
    have h2 := j.cnt
    have h3 := j.a1le
    have h4 := tr_len h
    omega
end
/-- The loop for the level to go back to: k literals have been looked at. -/
structure LB (lv : Int → Nat) (out out' : List Int) (k back : Nat) : Prop where
  perm : out'.Perm out
  zero : k = 0 → back = 0
  first : 0 < k → ∃ b t, out' = b :: t ∧ lv b = back
  most : ∀ j x, j < k → out'[j]? = some x → lv x ≤ back
theorem LB.start (lv : Int → Nat) (out : List Int) : LB lv out out 0 0 := ⟨List.Perm.refl _, fun _ => rfl, fun h => absurd h (Nat.lt_irrefl _), fun _ _ h => absurd h (Nat.not_lt_zero _)⟩
theorem LB.pass {lv : Int → Nat} {out out' : List Int} {k back : Nat} (h : LB lv out out' k back) {x : Int} (hx : out'[k]? = some x) (hp : 0 < lv x) (hle : lv x ≤ back) : LB lv out out' (k + 1) back :=
  ⟨h.perm, fun h => absurd h (by omega), fun _ => h.first (by
    rcases Nat.eq_zero_or_pos k with h0 | h0
    · have := h.zero h0
      omega
    · exact h0), fun j y hj hy => by
    by_cases e : j = k
    · subst e
      rw [hx] at hy
      cases hy
      exact hle
    · exact h.most j y (by omega) hy⟩
theorem LB.swap {lv : Int → Nat} {out out' : List Int} {k back : Nat} (h : LB lv out out' k back) {x y : Int} (hx : out'[k]? = some x) (hy : out'[0]? = some y) (hgt : back < lv x) : LB lv out ((out'.set 0 x).set k y) (k + 1) (lv x) := by
  have hkl := (List.getElem?_eq_some_iff.1 hx).1
  match out', hy, hx, h, hkl with
  | z :: t, hy, hx, h, hkl =>
    simp only [List.getElem?_cons_zero, Option.some.injEq] at hy
    subst hy
    match k, hx, h, hkl with
    | 0, hx, h, _ =>
      simp only [List.getElem?_cons_zero, Option.some.injEq] at hx
      subst hx
      refine ⟨h.perm, fun h => absurd h (by omega), fun _ => ⟨z, t, rfl, rfl⟩, fun j y hj hy => ?_⟩
      have : j = 0 := by omega
      subst this
      have hy' : (z :: t)[0]? = some y := hy
      simp only [List.getElem?_cons_zero, Option.some.injEq] at hy'
      rw [hy']
      exact Nat.le_refl _
    | k + 1, hx, h, hkl =>
      simp only [List.getElem?_cons_succ] at hx
      have hlt := (List.getElem?_eq_some_iff.1 hx).1
      have e1 : ((z :: t).set 0 x).set (k + 1) z = x :: t.set k z := rfl
      rw [e1]
      refine ⟨(perm_set hlt (List.getElem?_eq_some_iff.1 hx).2).trans h.perm, fun h => absurd h (by omega), fun _ => ⟨x, _, rfl, rfl⟩, fun j y hj hy => ?_⟩
      match j, hj, hy with
      | 0, _, hy =>
        simp only [List.getElem?_cons_zero, Option.some.injEq] at hy
        rw [hy]
        exact Nat.le_refl _
      | j + 1, hj, hy =>
        simp only [List.getElem?_cons_succ] at hy
        by_cases e : j = k
        · subst e
          rw [List.getElem?_set_self hlt] at hy
          cases hy
          obtain ⟨b, t2, e2, e3⟩ := h.first (by omega)
          cases e2
          omega
        · rw [List.getElem?_set_ne (Ne.symm e)] at hy
          have := h.most (j + 1) y (by omega) (by simpa using hy)
          omega
end Sat
end Go.Proofs.Ytkeagjphddcjeaa
