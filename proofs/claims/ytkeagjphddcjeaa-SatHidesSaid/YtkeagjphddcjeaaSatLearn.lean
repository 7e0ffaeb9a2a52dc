/-
  Clauses that are solved, the plain law: what is learned of a clause that cannot hold. A helper text; no conditions beyond those typed.
-/
import Derived.Test.YtkeagjphddcjeaaSatUndo
namespace Go.Proofs.Ytkeagjphddcjeaa
set_option linter.unusedVariables false
set_option linter.unusedSimpArgs false
namespace Sat
section
variable {n : Nat} {orig : List Cl} {gs : List Int} {cs : List Cl} {tr : List En} {mk : List Nat}

/-- How many of the literals ahead of a place are of the last level, and seen. -/
def cntS (tr : List En) (cur : Nat) (seen : Nat → Bool) : Nat → Nat
  | 0 => 0
  | q + 1 => cntS tr cur seen q + (match tr[q]? with | some e => if e.lev = cur ∧ seen (vr e.lit) = true then 1 else 0 | none => 0)
theorem cntS_le (tr : List En) (cur : Nat) (seen : Nat → Bool) : ∀ q, cntS tr cur seen q ≤ q
  | 0 => Nat.le_refl _
  | q + 1 => by
    have := cntS_le tr cur seen q
    unfold cntS
    split
    · split <;> omega
    · omega
theorem cntS_pos {tr : List En} {cur : Nat} {seen : Nat → Bool} : ∀ {q : Nat}, 0 < cntS tr cur seen q → ∃ (p : Nat) (e : En), p < q ∧ tr[p]? = some e ∧ e.lev = cur ∧ seen (vr e.lit) = true
  | 0, h => absurd h (Nat.lt_irrefl _)
  | q + 1, h => by
    unfold cntS at h
    cases he : tr[q]? with
    | none =>
      simp only [he] at h
      obtain ⟨p, e, h1, h2⟩ := cntS_pos (q := q) (by simpa using h)
      exact ⟨p, e, by omega, h2⟩
    | some e =>
      simp only [he] at h
      by_cases hs : e.lev = cur ∧ seen (vr e.lit) = true
      · exact ⟨q, e, by omega, he, hs.1, hs.2⟩
      · simp only [if_neg hs] at h
        obtain ⟨p, e, h1, h2⟩ := cntS_pos (q := q) (by simpa using h)
        exact ⟨p, e, by omega, h2⟩
theorem cntS_congr {tr : List En} {cur : Nat} {seen seen' : Nat → Bool} : ∀ {q : Nat}, (∀ (p : Nat) (e : En), p < q → tr[p]? = some e → e.lev = cur → seen (vr e.lit) = seen' (vr e.lit)) → cntS tr cur seen q = cntS tr cur seen' q
  | 0, _ => rfl
  | q + 1, h => by
    have ih := cntS_congr (q := q) (fun p e hp => h p e (by omega))
    unfold cntS
    rw [ih]
    cases he : tr[q]? with
    | none => rfl
    | some e =>
      by_cases hl : e.lev = cur
      · have := h q e (by omega) he hl
        simp only [hl, this]
      · simp [hl]
/-- One more is seen. -/
theorem cntS_add (h : Tr n orig gs cs tr mk) {cur : Nat} {seen : Nat → Bool} {p : Nat} {e : En} (he : tr[p]? = some e) (hl : e.lev = cur) (hs : seen (vr e.lit) = false) : ∀ {q : Nat}, p < q → cntS tr cur (fun v => if v = vr e.lit then true else seen v) q = cntS tr cur seen q + 1
  | 0, hp => absurd hp (Nat.not_lt_zero _)
  | q + 1, hp => by
    by_cases hpq : p = q
    · subst hpq
      have h1 : cntS tr cur (fun v => if v = vr e.lit then true else seen v) p = cntS tr cur seen p := cntS_congr fun p' e' hp' he' _ => by
        have hne : vr e'.lit ≠ vr e.lit := fun hh => by
          have := h.one p' p e' e he' he hh
          omega
        show (if vr e'.lit = vr e.lit then true else seen (vr e'.lit)) = _
        rw [if_neg hne]
      unfold cntS
      rw [h1, he]
      simp [hl, hs]
    · have ih := cntS_add h he hl hs (q := q) (by omega)
      unfold cntS
      rw [ih]
      cases he' : tr[q]? with
      | none => rfl
      | some e' =>
        have hne : vr e'.lit ≠ vr e.lit := fun hh => hpq (h.one q p e' e he' he hh).symm
        simp only [hne, if_false]
        omega

/-- The loop of learn: c is what is still to be looked at. -/
structure LJ (orig : List Cl) (tr : List En) (cur : Nat) (seen : Nat → Bool) (out : List Int) (opn a1 : Nat) (c : Cl) (l : Int) : Prop where
  a1le : a1 ≤ tr.length
  outs : ∀ x ∈ out, ∃ (q : Nat) (e : En), tr[q]? = some e ∧ e.lit = -x ∧ 0 < e.lev ∧ e.lev < cur
  nod : (out.map vr).Nodup
  seenOut : ∀ x ∈ out, seen (vr x) = true
  seenIs : ∀ e ∈ tr, seen (vr e.lit) = true → 0 < e.lev ∧ (e.lev < cur → -e.lit ∈ out)
  cnt : opn = cntS tr cur seen a1
  cl : ∀ x ∈ c, x ≠ l → ∃ q : Nat, q < a1 ∧ At tr q (-x)
  ent : ∀ v, sat v orig → (∃ x ∈ out, litB v x = true) ∨ (∃ (q : Nat) (e : En), q < a1 ∧ tr[q]? = some e ∧ e.lev = cur ∧ seen (vr e.lit) = true ∧ litB v e.lit = false) ∨ (∃ x ∈ c, x ≠ l ∧ litB v x = true)

/-- The start. -/
theorem LJ.start (hc : Cs n orig cs) {bad : Nat} {c : Cl} (hb : cs[bad]? = some c) (hf : ∀ x ∈ c, ∃ q, At tr q (-x)) : LJ orig tr mk.length (fun _ => false) [] 0 tr.length c 0 := by
  refine ⟨Nat.le_refl _, fun x h => (by cases h), List.nodup_nil, fun x h => (by cases h), fun e _ h => (by cases h), ?_, fun x hx _ => ?_, fun v hv => ?_⟩
  · symm
    rcases Nat.eq_zero_or_pos (cntS tr mk.length (fun _ => false) tr.length) with h | h
    · exact h
    · obtain ⟨_, _, _, _, _, h2⟩ := cntS_pos h
      cases h2
  · obtain ⟨q, hq⟩ := hf x hx
    exact ⟨q, hq.lt, hq⟩
  · obtain ⟨x, hx, hbx⟩ := hc.ent c (List.mem_of_getElem? hb) v hv
    exact .inr (.inr ⟨x, hx, (hc.ok c (List.mem_of_getElem? hb) x hx).1, hbx⟩)
theorem lev_le (h : Tr n orig gs cs tr mk) {e : En} (he : e ∈ tr) : e.lev ≤ mk.length := by
  obtain ⟨p, hp⟩ := List.mem_iff_getElem?.1 he
  rw [h.lev p e hp]
  exact levAt_le _ _

section
variable {seen : Nat → Bool} {out : List Int} {opn a1 : Nat} {x : Int} {c : Cl} {l : Int}
/-- A literal that is passed by. -/
theorem LJ.pass (j : LJ orig tr mk.length seen out opn a1 (x :: c) l) (h : Tr n orig gs cs tr mk) (hc : Cs n orig cs) (hx0 : x ≠ 0)
    (hp : x = l ∨ seen (vr x) = true ∨ ∃ (q : Nat) (e : En), tr[q]? = some e ∧ vr e.lit = vr x ∧ e.lev = 0) : LJ orig tr mk.length seen out opn a1 c l := by
  refine { j with cl := fun y hy => j.cl y (List.mem_cons_of_mem _ hy), ent := fun v hv => ?_ }
  rcases j.ent v hv with h1 | h1 | ⟨y, hy, hne, hb⟩
  · exact .inl h1
  · exact .inr (.inl h1)
  · rcases List.mem_cons.1 hy with e1 | h2
    · subst e1
      obtain ⟨q, hq, e, he, hel⟩ := j.cl y (List.mem_cons_self ..) hne
      rcases hp with h3 | h3 | ⟨q', e', he', hv', h0⟩
      · exact absurd h3 hne
      · have hs : seen (vr e.lit) = true := by rw [hel, vr_neg]; exact h3
        have hmem := List.mem_of_getElem? he
        obtain ⟨h4, h5⟩ := j.seenIs e hmem hs
        by_cases hlt : e.lev < mk.length
        · refine .inl ⟨y, ?_, hb⟩
          have := h5 hlt
          rw [hel, Int.neg_neg] at this
          exact this
        · refine .inr (.inl ⟨q, e, hq, he, by have := lev_le h hmem; omega, hs, ?_⟩)
          rw [hel, litB_neg v hx0, hb]
          rfl
      · have hqq : q' = q := h.one q' q e' e he' he (by rw [hv', hel, vr_neg])
        subst hqq
        rw [he] at he'
        cases he'
        have := follows0 h hc hv he h0
        rw [hel, litB_neg v hx0, hb] at this
        cases this
    · exact .inr (.inr ⟨y, h2, hne, hb⟩)
/-- A literal that is noted. -/
theorem LJ.note (j : LJ orig tr mk.length seen out opn a1 (x :: c) l) (h : Tr n orig gs cs tr mk) (hx0 : x ≠ 0) (hxl : x ≠ l) (hs : seen (vr x) = false) {q : Nat} {e : En} (he : tr[q]? = some e) (hv : vr e.lit = vr x) (h0 : e.lev ≠ 0) :
    (e.lev = mk.length → LJ orig tr mk.length (fun v => if v = vr x then true else seen v) out (opn + 1) a1 c l) ∧ (e.lev ≠ mk.length → LJ orig tr mk.length (fun v => if v = vr x then true else seen v) (out ++ [x]) opn a1 c l) := by
  obtain ⟨q', hq', e', he', hel⟩ := j.cl x (List.mem_cons_self ..) hxl
  have hqq : q' = q := h.one q' q e' e he' he (by rw [hv, hel, vr_neg])
  subst hqq
  rw [he] at he'
  cases he'
  have hmem := List.mem_of_getElem? he
  have hnew : ∀ e' ∈ tr, vr e'.lit = vr x → e' = e := fun e' he' hh => by
    obtain ⟨p, hp⟩ := List.mem_iff_getElem?.1 he'
    have := h.one p q' e' e hp he (by rw [hh, hv])
    subst this
    rw [he] at hp
    exact (Option.some.inj hp).symm
  constructor
  · intro hl
    refine ⟨j.a1le, j.outs, j.nod, fun y hy => ?_, fun e' he' hs' => ?_, ?_, fun y hy => j.cl y (List.mem_cons_of_mem _ hy), fun v hvs => ?_⟩
    · show (if vr y = vr x then true else seen (vr y)) = true
      split
      · rfl
      · exact j.seenOut y hy
    · by_cases hh : vr e'.lit = vr x
      · have := hnew e' he' hh
        subst this
        exact ⟨by omega, fun hlt => by omega⟩
      · have : (if vr e'.lit = vr x then true else seen (vr e'.lit)) = true := hs'
        rw [if_neg hh] at this
        exact j.seenIs e' he' this
    · rw [j.cnt, ← hv]
      exact (cntS_add h he hl (by rw [hv]; exact hs) hq').symm
    · rcases j.ent v hvs with h1 | ⟨p, e', h1, h2, h3, h4, h5⟩ | ⟨y, hy, hne, hb⟩
      · exact .inl h1
      · refine .inr (.inl ⟨p, e', h1, h2, h3, ?_, h5⟩)
        show (if vr e'.lit = vr x then true else seen (vr e'.lit)) = true
        split
        · rfl
        · exact h4
      · rcases List.mem_cons.1 hy with e1 | h2
        · subst e1
          refine .inr (.inl ⟨q', e, hq', he, hl, ?_, ?_⟩)
          · show (if vr e.lit = vr y then true else seen (vr e.lit)) = true
            rw [if_pos hv]
          · rw [hel, litB_neg v hx0, hb]
            rfl
        · exact .inr (.inr ⟨y, h2, hne, hb⟩)
  · intro hl
    have hlt : e.lev < mk.length := by have := lev_le h hmem; omega
    refine ⟨j.a1le, fun y hy => ?_, ?_, fun y hy => ?_, fun e' he' hs' => ?_, ?_, fun y hy => j.cl y (List.mem_cons_of_mem _ hy), fun v hvs => ?_⟩
    · rcases List.mem_append.1 hy with h1 | h1
      · exact j.outs y h1
      · rw [List.mem_singleton.1 h1]
        exact ⟨q', e, he, hel, by omega, hlt⟩
    · rw [List.map_append, List.nodup_append]
      refine ⟨j.nod, by simp, fun a ha b hb hab => ?_⟩
      simp only [List.map_cons, List.map_nil, List.mem_singleton] at hb
      obtain ⟨y, hy, rfl⟩ := List.mem_map.1 ha
      have := j.seenOut y hy
      rw [hab, hb, hs] at this
      cases this
    · show (if vr y = vr x then true else seen (vr y)) = true
      rcases List.mem_append.1 hy with h1 | h1
      · split
        · rfl
        · exact j.seenOut y h1
      · rw [List.mem_singleton.1 h1, if_pos rfl]
    · by_cases hh : vr e'.lit = vr x
      · have := hnew e' he' hh
        subst this
        refine ⟨by omega, fun _ => ?_⟩
        rw [hel, Int.neg_neg]
        simp
      · have : (if vr e'.lit = vr x then true else seen (vr e'.lit)) = true := hs'
        rw [if_neg hh] at this
        obtain ⟨h1, h2⟩ := j.seenIs e' he' this
        exact ⟨h1, fun hh => List.mem_append_left _ (h2 hh)⟩
    · rw [j.cnt]
      refine cntS_congr fun p e' hp he' hl' => ?_
      have hne : vr e'.lit ≠ vr x := fun hh => by
        have := hnew e' (List.mem_of_getElem? he') hh
        subst this
        exact hl hl'
      show _ = (if vr e'.lit = vr x then true else seen (vr e'.lit))
      rw [if_neg hne]
    · rcases j.ent v hvs with ⟨y, hy, hb⟩ | ⟨p, e', h1, h2, h3, h4, h5⟩ | ⟨y, hy, hne, hb⟩
      · exact .inl ⟨y, List.mem_append_left _ hy, hb⟩
      · refine .inr (.inl ⟨p, e', h1, h2, h3, ?_, h5⟩)
        show (if vr e'.lit = vr x then true else seen (vr e'.lit)) = true
        split
        · rfl
        · exact h4
      · rcases List.mem_cons.1 hy with e1 | h2
        · subst e1
          exact .inl ⟨y, by simp, hb⟩
        · exact .inr (.inr ⟨y, h2, hne, hb⟩)
theorem levAt_lt : ∀ {mk : List Nat} {p q : Nat}, p < q → q ∈ mk → levAt mk p < levAt mk q
  | [], _, _, _, h => by cases h
  | m :: mk, p, q, hpq, h => by
    have hm := levAt_mono mk (Nat.le_of_lt hpq)
    have e1 : ∀ x, levAt (m :: mk) x = (if m ≤ x then 1 else 0) + levAt mk x := fun x => by
      unfold levAt
      rw [List.filter_cons]
      by_cases hx : m ≤ x
      · simp [hx]; omega
      · simp [hx]
    rw [e1, e1]
    rcases List.mem_cons.1 h with h1 | h1
    · subst h1
      rw [if_neg (by omega), if_pos (Nat.le_refl _)]
      omega
    · have := levAt_lt hpq h1
      by_cases h2 : m ≤ p
      · rw [if_pos h2, if_pos (by omega)]
        omega
      · rw [if_neg h2]
        omega
/-- The last literal that is seen: its place; what comes then. -/
theorem LJ.next (j : LJ orig tr mk.length seen out opn a1 [] l) (h : Tr n orig gs cs tr mk) (hc : Cs n orig cs) (hm0 : mk ≠ []) {q : Nat} {e : En} (hq : q < a1) (he : tr[q]? = some e) (hs : seen (vr e.lit) = true)
    (hlast : ∀ (p : Nat) (e' : En), q < p → p < a1 → tr[p]? = some e' → seen (vr e'.lit) = false) (ho : 0 < opn) :
    e.lev = mk.length ∧ (opn = 1 → ∀ v, sat v orig → (∃ x ∈ out, litB v x = true) ∨ litB v e.lit = false) ∧
    (opn ≠ 1 → ∃ (i : Nat) (c : Cl), e.why = (i : Int) ∧ cs[i]? = some c ∧ LJ orig tr mk.length seen out (opn - 1) q c e.lit) := by
  have hcur : 0 < mk.length := List.length_pos_iff.2 hm0
  -- the last level begins at the last mark
  obtain ⟨p0, e0, hp0, he0, hl0, hs0⟩ := cntS_pos (by rw [← j.cnt]; exact ho)
  have hp0q : p0 ≤ q := by
    rcases Nat.lt_or_ge q p0 with h1 | h1
    · have := hlast p0 e0 h1 hp0 he0
      rw [hs0] at this
      cases this
    · exact h1
  have hlev : e.lev = mk.length := by
    have h1 := levAt_mono mk hp0q
    rw [← h.lev p0 e0 he0, hl0, ← h.lev q e he] at h1
    have := lev_le h (List.mem_of_getElem? he)
    omega
  have hcnt : cntS tr mk.length seen a1 = cntS tr mk.length seen q + 1 := by
    have hstep : cntS tr mk.length seen (q + 1) = cntS tr mk.length seen q + 1 := by
      rw [show cntS tr mk.length seen (q + 1) = cntS tr mk.length seen q + (match tr[q]? with | some e => if e.lev = mk.length ∧ seen (vr e.lit) = true then 1 else 0 | none => 0) from rfl, he]
      simp [hlev, hs]
    have hrest : ∀ k, q + 1 + k ≤ a1 → cntS tr mk.length seen (q + 1 + k) = cntS tr mk.length seen (q + 1) := by
      intro k
      induction k with
      | zero => intro _; rfl
      | succ k ih =>
        intro hk
        have hi := ih (by omega)
        rw [show cntS tr mk.length seen (q + 1 + (k + 1)) = cntS tr mk.length seen (q + 1 + k) + (match tr[q + 1 + k]? with | some e => if e.lev = mk.length ∧ seen (vr e.lit) = true then 1 else 0 | none => 0) from rfl, hi]
        cases he' : tr[q + 1 + k]? with
        | none => rfl
        | some e' =>
          have := hlast (q + 1 + k) e' (by omega) (by omega) he'
          simp [this]
    have := hrest (a1 - (q + 1)) (by omega)
    rw [show q + 1 + (a1 - (q + 1)) = a1 by omega] at this
    rw [this, hstep]
  refine ⟨hlev, fun h1 v hv => ?_, fun h1 => ?_⟩
  · have hz : cntS tr mk.length seen q = 0 := by have := j.cnt; omega
    rcases j.ent v hv with h2 | ⟨p, e', h2, h3, h4, h5, h6⟩ | ⟨y, hy, _⟩
    · exact .inl h2
    · by_cases hpq : p = q
      · subst hpq
        rw [he] at h3
        cases h3
        exact .inr h6
      · exfalso
        rcases Nat.lt_or_ge q p with h7 | h7
        · have := hlast p e' h7 h2 h3
          rw [h5] at this
          cases this
        · -- it would be counted
          have hc1 : ∀ k, p < k → 0 < cntS tr mk.length seen k := by
            intro k
            induction k with
            | zero => intro hk; omega
            | succ k ih =>
              intro hk
              rw [show cntS tr mk.length seen (k + 1) = cntS tr mk.length seen k + (match tr[k]? with | some e => if e.lev = mk.length ∧ seen (vr e.lit) = true then 1 else 0 | none => 0) from rfl]
              by_cases hpk : p = k
              · subst hpk
                rw [h3]
                simp [h4, h5]
              · have := ih (by omega)
                omega
          have := hc1 q (by omega)
          omega
    · cases hy
  · have hpos : 0 < cntS tr mk.length seen q := by have := j.cnt; omega
    obtain ⟨p1, e1, hp1, he1, hl1, hs1⟩ := cntS_pos hpos
    have hnm : q ∉ mk := fun hmem => by
      -- the mark q raises the level
      have h2 : levAt mk p1 < levAt mk q := by
        exact levAt_lt hp1 hmem
      have h4 := h.lev p1 e1 he1
      have h5 := h.lev q e he
      omega
    rcases h.why q e he hnm with ⟨_, h3, _⟩ | ⟨i, c, a1', a2, a3, a4⟩
    · omega
    · refine ⟨i, c, a1', a2, ?_⟩
      refine ⟨by have := j.a1le; omega, j.outs, j.nod, j.seenOut, j.seenIs, by have := j.cnt; omega, fun x hx hne => a4 x hx hne, fun v hv => ?_⟩
      rcases j.ent v hv with h2 | ⟨p, e', h2, h3, h4, h5, h6⟩ | ⟨y, hy, _⟩
      · exact .inl h2
      · by_cases hpq : p = q
        · subst hpq
          rw [he] at h3
          cases h3
          obtain ⟨y, hy, hb⟩ := hc.ent c (List.mem_of_getElem? a2) v hv
          refine .inr (.inr ⟨y, hy, fun hh => ?_, hb⟩)
          rw [hh, h6] at hb
          cases hb
        · rcases Nat.lt_or_ge q p with h7 | h7
          · have := hlast p e' h7 h2 h3
            rw [h5] at this
            cases this
          · exact .inr (.inl ⟨p, e', by omega, h3, h4, h5, h6⟩)
      · cases hy
end
end
end Sat
end Go.Proofs.Ytkeagjphddcjeaa
