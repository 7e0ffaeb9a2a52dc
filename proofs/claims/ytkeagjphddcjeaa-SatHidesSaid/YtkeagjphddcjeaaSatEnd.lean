/-
  Clauses that are solved, the plain law: what is learned is laid; the end: values that are the best ones, or none. A helper text; no conditions beyond those typed.
-/
import Derived.Test.YtkeagjphddcjeaaSatLearn
namespace Go.Proofs.Ytkeagjphddcjeaa
set_option linter.unusedVariables false
set_option linter.unusedSimpArgs false
namespace Sat
section
variable {n : Nat} {orig : List Cl} {gs : List Int} {cs : List Cl} {tr : List En} {mk : List Nat}

/-- What learn answers: the first literal's other one was the last that was looked at; the other ones do not hold, at lower levels, the second one at the highest of them. -/
structure Learned (orig : List Cl) (tr : List En) (mk : List Nat) (c : Cl) (back : Nat) : Prop where
  ent : Ent orig c
  one : (c.map vr).Nodup
  head : ∃ (a : Int) (t : Cl), c = a :: t ∧ (∃ (q : Nat) (e : En), tr[q]? = some e ∧ e.lit = -a ∧ e.lev = mk.length) ∧
    (∀ x ∈ t, ∃ (q : Nat) (e : En), tr[q]? = some e ∧ e.lit = -x ∧ 0 < e.lev ∧ e.lev ≤ back) ∧ (t = [] → back = 0) ∧
    (∀ (b : Int) (t' : Cl), t = b :: t' → ∃ (q : Nat) (e : En), tr[q]? = some e ∧ e.lit = -b ∧ e.lev = back)
  lt : back < mk.length
/-- The clause that learn has, the order of its literals behind the first one aside. -/
theorem LJ.learned {seen : Nat → Bool} {out : List Int} {opn a1 : Nat} {l : Int} (j : LJ orig tr mk.length seen out opn a1 [] l) (h : Tr n orig gs cs tr mk) (hm0 : mk ≠ []) {q : Nat} {e : En} (he : tr[q]? = some e) (hl : e.lev = mk.length)
    (hent : ∀ v, sat v orig → (∃ x ∈ out, litB v x = true) ∨ litB v e.lit = false) {out' : List Int} (hp : out'.Perm out) {back : Nat}
    (hback : ∀ x ∈ out, ∀ (q : Nat) (e : En), tr[q]? = some e → e.lit = -x → e.lev ≤ back) (h0 : out' = [] → back = 0) (hb : ∀ (b : Int) (t' : Cl), out' = b :: t' → ∃ (q : Nat) (e : En), tr[q]? = some e ∧ e.lit = -b ∧ e.lev = back) :
    Learned orig tr mk (-e.lit :: out') back := by
  have hmem := List.mem_of_getElem? he
  have hok := h.ok e hmem
  refine ⟨fun v hv => ?_, ?_, ⟨-e.lit, out', rfl, ⟨q, e, he, by rw [Int.neg_neg], hl⟩, fun x hx => ?_, h0, hb⟩, ?_⟩
  · rcases hent v hv with ⟨x, hx, hbx⟩ | h1
    · exact ⟨x, List.mem_cons_of_mem _ (hp.mem_iff.2 hx), hbx⟩
    · exact ⟨-e.lit, List.mem_cons_self .., by rw [litB_neg v hok.1, h1]; rfl⟩
  · rw [List.map_cons, List.nodup_cons]
    refine ⟨fun hh => ?_, (hp.map vr).nodup_iff.2 j.nod⟩
    obtain ⟨x, hx, hv⟩ := List.mem_map.1 hh
    obtain ⟨q', e', he', hel, _, hlt⟩ := j.outs x (hp.mem_iff.1 hx)
    have := h.one q' q e' e he' he (by rw [hel, vr_neg, hv, vr_neg])
    subst this
    rw [he] at he'
    cases he'
    omega
  · obtain ⟨q', e', he', hel, h1, h2⟩ := j.outs x (hp.mem_iff.1 hx)
    exact ⟨q', e', he', hel, h1, hback x (hp.mem_iff.1 hx) q' e' he' hel⟩
  · cases ho : out' with
    | nil =>
      rw [h0 ho]
      exact List.length_pos_iff.2 hm0
    | cons b t' =>
      obtain ⟨q', e', he', hel, h1⟩ := hb b t' ho
      obtain ⟨q2, e2, he2, hel2, _, hlt⟩ := j.outs b (hp.mem_iff.1 (by rw [ho]; exact List.mem_cons_self ..))
      have := h.one q' q2 e' e2 he' he2 (by rw [hel, hel2])
      subst this
      rw [he'] at he2
      cases he2
      omega
/-- What is laid: the trail goes back, the clause is added (if it has two literals), its first literal is asked. -/
theorem Learned.laid {c : Cl} {back : Nat} (hL : Learned orig tr mk c back) (h : Tr n orig gs cs tr mk) (hc : Cs n orig cs) {m : Nat} (hm : mk[back]? = some m) {k : Nat} (hw : Wat cs tr k) (hk : m ≤ k) :
    ∃ (a : Int) (t : Cl), c = a :: t ∧ Lok n a ∧ Open (tr.take m) a ∧ (∀ x ∈ t, Lok n x) ∧ (∀ x ∈ t, ∃ q, At (tr.take m) q (-x)) ∧
      (t = [] → Tr n orig gs cs (tr.take m ++ [⟨a, (mk.take back).length, -1⟩]) (mk.take back) ∧ Cs n orig cs ∧ Wat cs (tr.take m ++ [⟨a, (mk.take back).length, -1⟩]) m ∧ back = 0) ∧
      (t ≠ [] → Tr n orig gs (cs ++ [c]) (tr.take m ++ [⟨a, (mk.take back).length, (cs.length : Int)⟩]) (mk.take back) ∧ Cs n orig (cs ++ [c]) ∧ Wat (cs ++ [c]) (tr.take m ++ [⟨a, (mk.take back).length, (cs.length : Int)⟩]) m) := by
  obtain ⟨a, t, rfl, ⟨qa, ea, hea, hela, hleva⟩, ht, ht0, htb⟩ := hL.head
  have hml : m < tr.length := h.inn m (List.mem_of_getElem? hm)
  have hlen : (mk.take back).length = back := by
    rw [List.length_take]
    have := (List.getElem?_eq_some_iff.1 hm).1
    omega
  have hoka : Lok n a := by
    have := (h.ok ea (List.mem_of_getElem? hea)).neg
    rwa [hela, Int.neg_neg] at this
  have hopen : Open (tr.take m) a := fun e he hv => by
    obtain ⟨p, hp⟩ := List.mem_iff_getElem?.1 he
    obtain ⟨hp1, hp2⟩ := get_take hp
    have := h.one p qa e ea hp1 hea (by rw [hv, hela, vr_neg])
    subst this
    have := (lev_lt h hm hea).1 hp2
    have := hL.lt
    omega
  have hoks : ∀ x ∈ t, Lok n x := fun x hx => by
    obtain ⟨q, e, he, hel, _⟩ := ht x hx
    have := (h.ok e (List.mem_of_getElem? he)).neg
    rwa [hel, Int.neg_neg] at this
  have hfalse : ∀ x ∈ t, ∃ q, At (tr.take m) q (-x) := fun x hx => by
    obtain ⟨q, e, he, hel, _, hle⟩ := ht x hx
    exact ⟨q, at_take ⟨e, he, hel⟩ ((lev_lt h hm he).2 hle)⟩
  have hu := h.undo hm
  have hwu := hw.undo h hm hk
  refine ⟨a, t, rfl, hoka, hopen, hoks, hfalse, fun h0 => ?_, fun h0 => ?_⟩
  · subst h0
    have hb0 := ht0 rfl
    have hmk : mk.take back = [] := by rw [hb0]; rfl
    refine ⟨hu.asked hoka hopen (.inl ⟨by decide, hmk, hL.ent⟩), hc, hwu.snoc (by rw [List.length_take]; omega), hb0⟩
  · have hent2 : 2 ≤ (a :: t).length := by
      cases t with
      | nil => exact absurd rfl h0
      | cons b t' => simp
    refine ⟨(hu.more (a :: t)).asked hoka hopen (.inr ⟨cs.length, a :: t, rfl, by simp, List.mem_cons_self .., fun x hx hne => ?_⟩),
      hc.more hL.ent hent2 (fun x hx => by rcases List.mem_cons.1 hx with rfl | hx; exact hoka; exact hoks x hx) hL.one, ?_⟩
    · rcases List.mem_cons.1 hx with rfl | hx
      · exact absurd rfl hne
      · exact hfalse x hx
    · intro d hd x y u hdu
      rcases List.mem_append.1 hd with h1 | h1
      · exact (hwu.snoc (by rw [List.length_take]; omega)) d h1 x y u hdu
      · rw [List.mem_singleton.1 h1] at hdu
        injection hdu with e1 e2
        subst e1
        have hmlen : (tr.take m).length = m := by rw [List.length_take]; omega
        constructor
        · intro q e hq he hel
          exfalso
          rcases get_snoc he with h2 | ⟨h2, _⟩
          · exact hopen e (List.mem_of_getElem? h2) (by rw [hel, vr_neg])
          · omega
        · intro q e hq he hel
          rcases get_snoc he with h2 | ⟨h2, _⟩
          · obtain ⟨h3, h4⟩ := get_take h2
            obtain ⟨q', e', he', hel', hlev'⟩ := htb y u e2
            have := h.one q q' e e' h3 he' (by rw [hel, hel'])
            subst this
            rw [h3] at he'
            cases he'
            exact ⟨m, ⟨a, (mk.take back).length, (cs.length : Int)⟩, by rw [← hmlen]; simp, rfl, by show (mk.take back).length ≤ e.lev; rw [hlen, hlev']; exact Nat.le_refl _⟩
          · omega
/-- A clause of which nothing holds, at level 0: nothing can hold. -/
theorem none_holds (h : Tr n orig gs cs tr []) (hc : Cs n orig cs) {c : Cl} (hm : c ∈ cs) (hf : ∀ x ∈ c, ∃ q, At tr q (-x)) (v : Asg) : ¬ sat v orig := fun hv => by
  obtain ⟨x, hx, hb⟩ := hc.ent c hm v hv
  obtain ⟨q, e, he, hel⟩ := hf x hx
  have := follows0 h hc hv he (by rw [h.lev q e he]; rfl)
  rw [hel, litB_neg v (hc.ok c hm x hx).1, hb] at this
  cases this

/-- The values of the trail. -/
def asgOf (tr : List En) : Asg := fun u => tr.any fun e => decide (vr e.lit = u) && decide (0 < e.lit)
theorem asg_true (h : Tr n orig gs cs tr mk) {q : Nat} {l : Int} (ha : At tr q l) : litB (asgOf tr) l = true := by
  obtain ⟨e, he, rfl⟩ := ha
  have hmem := List.mem_of_getElem? he
  have hok := (h.ok e hmem).1
  have huniq : ∀ e' ∈ tr, vr e'.lit = vr e.lit → e' = e := fun e' he' hv => by
    obtain ⟨p, hp⟩ := List.mem_iff_getElem?.1 he'
    have := h.one p q e' e hp he hv
    subst this
    rw [he] at hp
    exact (Option.some.inj hp).symm
  unfold litB
  by_cases h1 : e.lit < 0
  · rw [if_pos h1]
    have : asgOf tr (vr e.lit) = false := by
      unfold asgOf
      rw [List.any_eq_false]
      intro e' he' hh
      rw [Bool.and_eq_true, decide_eq_true_eq, decide_eq_true_eq] at hh
      have := huniq e' he' hh.1
      subst this
      omega
    rw [this]
    rfl
  · rw [if_neg h1]
    unfold asgOf
    rw [List.any_eq_true]
    exact ⟨e, hmem, by rw [Bool.and_eq_true, decide_eq_true_eq, decide_eq_true_eq]; exact ⟨rfl, by omega⟩⟩
/-- All variables have a value. -/
def Full (n : Nat) (tr : List En) : Prop := ∀ u, u < n → ∃ (q : Nat) (e : En), tr[q]? = some e ∧ vr e.lit = u
/-- All clauses hold by the trail's values. -/
theorem full_sat (h : Tr n orig gs cs tr mk) (hc : Cs n orig cs) (hw : Wat cs tr tr.length) (hf : Full n tr) : sat (asgOf tr) cs := fun c hcm => by
  have h2 := hc.two c hcm
  match c, h2, hcm with
  | a :: b :: t, _, hcm =>
    have hoka := hc.ok _ hcm a (by simp)
    obtain ⟨q, e, he, hv⟩ := hf (vr a) hoka.lt
    rcases vr_eq (h.ok e (List.mem_of_getElem? he)) hoka hv with h3 | h3
    · exact ⟨a, by simp, asg_true h ⟨e, he, h3⟩⟩
    · obtain ⟨q', e', he', hel, _⟩ := (hw _ hcm a b t rfl).1 q e (List.getElem?_eq_some_iff.1 he).1 he h3
      exact ⟨b, by simp, asg_true h ⟨e', he', hel⟩⟩
/-- One is ahead of another. -/
def Ahead (gs : List Int) (v w : Asg) : Prop := ∃ (i : Nat) (g : Int), gs[i]? = some g ∧ litB v g = true ∧ litB w g = false ∧ ∀ (j : Nat) (g' : Int), j < i → gs[j]? = some g' → litB v g' = litB w g'
/-- The trail's values are the best ones: any others by which all clauses hold, that are not the same on some guess, come behind. -/
theorem best (h : Tr n orig gs cs tr mk) (hc : Cs n orig cs) (hf : Full n tr) (hgs : ∀ g ∈ gs, Lok n g) {w : Asg} (hw : sat w orig) (hne : ∃ g ∈ gs, litB (asgOf tr) g ≠ litB w g) : Ahead gs (asgOf tr) w := by
  obtain ⟨g0, hg0, hd0⟩ := hne
  obtain ⟨i0, hi0⟩ := List.mem_iff_getElem?.1 hg0
  -- the first guess on which they differ
  have hfirst : ∀ k, (∃ (i : Nat) (g : Int), i < k ∧ gs[i]? = some g ∧ litB (asgOf tr) g ≠ litB w g) → ∃ (i : Nat) (g : Int), gs[i]? = some g ∧ litB (asgOf tr) g ≠ litB w g ∧ ∀ (j : Nat) (g' : Int), j < i → gs[j]? = some g' → litB (asgOf tr) g' = litB w g' := by
    intro k
    induction k with
    | zero => rintro ⟨i, g, hi, _⟩; omega
    | succ k ih =>
      rintro ⟨i, g, hi, hg, hd⟩
      by_cases hlow : ∃ (i : Nat) (g : Int), i < k ∧ gs[i]? = some g ∧ litB (asgOf tr) g ≠ litB w g
      · exact ih hlow
      · have hik : i = k := by
          rcases Nat.lt_or_ge i k with h1 | h1
          · exact absurd ⟨i, g, h1, hg, hd⟩ hlow
          · omega
        subst hik
        refine ⟨i, g, hg, hd, fun j g' hj hg' => ?_⟩
        by_cases heq : litB (asgOf tr) g' = litB w g'
        · exact heq
        · exact absurd ⟨j, g', hj, hg', heq⟩ hlow
  obtain ⟨i, g, hg, hd, hbefore⟩ := hfirst (i0 + 1) ⟨i0, g0, by omega, hi0, hd0⟩
  refine ⟨i, g, hg, ?_, ?_, hbefore⟩
  all_goals
    have hokg := hgs g (List.mem_of_getElem? hg)
    obtain ⟨p, e, he, hv⟩ := hf (vr g) hokg.lt
    have hgt : litB (asgOf tr) g = true := by
      rcases vr_eq (h.ok e (List.mem_of_getElem? he)) hokg hv with h3 | h3
      · exact asg_true h ⟨e, he, h3⟩
      · -- the other literal stands on the trail: it would follow in w, too
        exfalso
        have hfol : litB w e.lit = true := by
          refine follows h hc hw p e he fun m hm hle l hl => ?_
          obtain ⟨k, g', hk, hat, hbef⟩ := h.dec m hm
          have hll : l = g' := by
            obtain ⟨e1, he1, rfl⟩ := hl
            obtain ⟨e2, he2, rfl⟩ := hat
            rw [he1] at he2
            cases he2
            rfl
          subst hll
          have htrue := asg_true h hat
          rcases Nat.lt_trichotomy k i with hki | hki | hki
          · rw [← hbefore k l hki hk]
            exact htrue
          · subst hki
            rw [hg] at hk
            cases hk
            -- the guess itself holds
            exact absurd hat fun hat => not_both h hat ⟨e, he, h3⟩
          · exfalso
            obtain ⟨q, hq, hor⟩ := hbef i g hki hg
            have hqp : q = p := by
              rcases hor with h5 | h5
              · exact absurd h5 fun h5 => not_both h h5 ⟨e, he, h3⟩
              · exact at_one h h5 ⟨e, he, h3⟩
            subst hqp
            rw [h.lev q e he] at hle
            have := levAt_lt hq hm
            omega
        have h7 := asg_true h ⟨e, he, rfl⟩
        rw [h3, litB_neg _ hokg.1] at hfol h7
        have h8 : litB w g = false := by simpa using hfol
        have h9 : litB (asgOf tr) g = false := by simpa using h7
        exact hd (h9.trans h8.symm)
  · exact hgt
  · rw [hgt] at hd
    cases hwg : litB w g with
    | true => rw [hwg] at hd; exact absurd rfl hd
    | false => rfl
end
end Sat
end Go.Proofs.Ytkeagjphddcjeaa
