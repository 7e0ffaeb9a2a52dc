/-
  Clauses that are solved, the plain law: what propagate keeps. A helper text; no conditions beyond those typed.
-/
import Derived.Test.YtkeagjphddcjeaaSatCount
namespace Go.Proofs.Ytkeagjphddcjeaa
set_option linter.unusedVariables false
set_option linter.unusedSimpArgs false
namespace Sat

/-- The lists of watchers tell who watches. -/
def Wl (cs : List Cl) (wl : Int → List Nat) : Prop := ∀ l, (wl l).Nodup ∧ ∀ i, i ∈ wl l ↔ ∃ c, cs[i]? = some c ∧ l ∈ c.take 2
theorem Wl.len {cs : List Cl} {wl : Int → List Nat} (h : Wl cs wl) (l : Int) : (wl l).length ≤ cs.length := by
  have := List.Nodup.length_le_of_subset (h l).1 (l₂ := List.range cs.length) fun i hi => by
    obtain ⟨c, hc, _⟩ := ((h l).2 i).1 hi
    exact List.mem_range.2 (List.getElem?_eq_some_iff.1 hc).1
  simpa using this
/-- What has come of clauses and trail. -/
structure Far (n : Nat) (mk : List Nat) (cs0 : List Cl) (tr0 : List En) (cs : List Cl) (tr : List En) : Prop where
  len : cs.length = cs0.length
  cov : ∀ c ∈ cs0, ∃ c' ∈ cs, ∀ x ∈ c', x ∈ c
  pre : tr0 <+: tr
  tv : trV n tr0 mk ≤ trV n tr mk
theorem Far.refl (n : Nat) (mk : List Nat) (cs : List Cl) (tr : List En) : Far n mk cs tr cs tr := ⟨rfl, fun c h => ⟨c, h, fun _ h => h⟩, List.prefix_refl _, Nat.le_refl _⟩
theorem Far.trans {n : Nat} {mk : List Nat} {cs0 cs1 cs2 : List Cl} {tr0 tr1 tr2 : List En} (h : Far n mk cs0 tr0 cs1 tr1) (k : Far n mk cs1 tr1 cs2 tr2) : Far n mk cs0 tr0 cs2 tr2 :=
  ⟨k.len.trans h.len, fun c hc => by
    obtain ⟨c1, h1, h2⟩ := h.cov c hc
    obtain ⟨c2, h3, h4⟩ := k.cov c1 h1
    exact ⟨c2, h3, fun x hx => h2 x (h4 x hx)⟩, h.pre.trans k.pre, Nat.le_trans h.tv k.tv⟩
theorem Far.perm {n : Nat} {mk : List Nat} {cs0 cs : List Cl} {tr0 tr : List En} (h : Far n mk cs0 tr0 cs tr) {i : Nat} {c c' : Cl} (hc : cs[i]? = some c) (hp : ∀ x ∈ c', x ∈ c) : Far n mk cs0 tr0 (cs.set i c') tr := by
  refine h.trans ⟨by simp, fun d hd => ?_, List.prefix_refl _, Nat.le_refl _⟩
  obtain ⟨j, hj⟩ := List.mem_iff_getElem?.1 hd
  by_cases e : j = i
  · subst e
    rw [hc] at hj
    cases hj
    exact ⟨c', List.mem_iff_getElem?.2 ⟨j, by rw [List.getElem?_set_self (List.getElem?_eq_some_iff.1 hc).1]⟩, hp⟩
  · exact ⟨d, List.mem_iff_getElem?.2 ⟨j, by rw [List.getElem?_set_ne (Ne.symm e)]; exact hj⟩, fun x hx => hx⟩
theorem Far.snoc {n : Nat} {mk : List Nat} {cs0 cs : List Cl} {tr0 tr : List En} (h : Far n mk cs0 tr0 cs tr) (e : En) : Far n mk cs0 tr0 cs (tr ++ [e]) :=
  h.trans ⟨rfl, fun c h => ⟨c, h, fun _ h => h⟩, List.prefix_append _ _, trV_asked e⟩

/-- Propagate's round. -/
structure PJ (n : Nat) (orig : List Cl) (gs : List Int) (mk : List Nat) (h0 : Nat) (gone : Int) (list : List Nat) (cs : List Cl) (tr : List En) (wl : Int → List Nat) (kept : List Nat) (i : Nat) : Prop where
  trl : Tr n orig gs cs tr mk
  cl : Cs n orig cs
  wat : Wat cs tr h0
  at' : At tr h0 (-gone)
  mks : ∀ m ∈ mk, m ≤ h0
  wlOk : Wl cs (fun l => if l = gone then kept ++ list.drop i else wl l)
  done : ∀ m ∈ kept, ∀ (a b : Int) (t : Cl), cs[m]? = some (a :: b :: t) → (a = gone ∧ ∃ q, At tr q b) ∨ (b = gone ∧ ∃ q, At tr q a)

section
variable {n : Nat} {orig : List Cl} {gs : List Int} {mk : List Nat} {h0 : Nat} {gone : Int} {list : List Nat} {cs : List Cl} {tr : List En} {wl : Int → List Nat} {kept : List Nat} {i m : Nat}

theorem PJ.start (ht : Tr n orig gs cs tr mk) (hc : Cs n orig cs) (hw : Wat cs tr h0) (ha : At tr h0 (-gone)) (hm : ∀ m ∈ mk, m ≤ h0) (hwl : Wl cs wl) : PJ n orig gs mk h0 gone (wl gone) cs tr wl [] 0 := by
  refine ⟨ht, hc, hw, ha, hm, fun l => ?_, fun m h => (by cases h)⟩
  have := hwl l
  by_cases e : l = gone
  · subst e
    simpa using this
  · simpa [e] using this
theorem PJ.mem (p : PJ n orig gs mk h0 gone list cs tr wl kept i) (hm : list[i]? = some m) : ∃ (a b : Int) (t : Cl), cs[m]? = some (a :: b :: t) ∧ (a = gone ∨ b = gone) ∧ a ≠ b ∧ m ∉ kept ∧ a :: b :: t ∈ cs := by
  have hlt := (List.getElem?_eq_some_iff.1 hm).1
  have hd : list.drop i = m :: list.drop (i + 1) := by
    rw [List.drop_eq_getElem_cons hlt]
    rw [(List.getElem?_eq_some_iff.1 hm).2]
  have h1 := p.wlOk gone
  simp only [if_true] at h1
  rw [hd] at h1
  obtain ⟨c, hc, hg⟩ := (h1.2 m).1 (by simp)
  have h2 := p.cl.two c (List.mem_of_getElem? hc)
  match c, h2, hc, hg with
  | a :: b :: t, _, hc, hg =>
    have hone := p.cl.one _ (List.mem_of_getElem? hc)
    refine ⟨a, b, t, hc, ?_, fun e => ?_, fun hk => ?_, List.mem_of_getElem? hc⟩
    · simp at hg
      exact hg.imp Eq.symm Eq.symm
    · subst e
      simp at hone
    · have := h1.1
      rw [List.nodup_append] at this
      exact this.2.2 m hk m (by simp) rfl
theorem get_set {c' d : Cl} {j : Nat} (hm : m < cs.length) (h : (cs.set m c')[j]? = some d) : (j = m ∧ d = c') ∨ (j ≠ m ∧ cs[j]? = some d) := by
  by_cases e : j = m
  · subst e
    rw [List.getElem?_set_self hm] at h
    exact .inl ⟨rfl, (Option.some.inj h).symm⟩
  · rw [List.getElem?_set_ne (Ne.symm e)] at h
    exact .inr ⟨e, h⟩
theorem mem_set {c' d : Cl} (h : d ∈ cs.set m c') (hm : m < cs.length) : d = c' ∨ d ∈ cs := by
  obtain ⟨j, hj⟩ := List.mem_iff_getElem?.1 h
  rcases get_set hm hj with h1 | h1
  · exact .inl h1.2
  · exact .inr (List.mem_of_getElem? h1.2)
/-- The first two literals change places. -/
theorem PJ.turn (p : PJ n orig gs mk h0 gone list cs tr wl kept i) {a b : Int} {t : Cl} (hc : cs[m]? = some (a :: b :: t)) : PJ n orig gs mk h0 gone list (cs.set m (b :: a :: t)) tr wl kept i := by
  have hm := (List.getElem?_eq_some_iff.1 hc).1
  refine ⟨p.trl.perm hc (fun x => by simp; constructor <;> (rintro (h | h | h) <;> simp [h])), p.cl.perm hc (List.Perm.swap _ _ _), fun c hcm x y s he => ?_, p.at', p.mks, fun l => ⟨(p.wlOk l).1, fun j => ?_⟩, fun k hk x y s he => ?_⟩
  · rcases mem_set hcm hm with h1 | h1
    · rw [h1] at he
      cases he
      exact (p.wat _ (List.mem_of_getElem? hc) a b t rfl).symm
    · exact p.wat c h1 x y s he
  · rw [(p.wlOk l).2 j]
    constructor
    · rintro ⟨c, h1, h2⟩
      by_cases e : j = m
      · subst e
        rw [hc] at h1
        cases h1
        refine ⟨_, List.getElem?_set_self hm, ?_⟩
        simp at h2 ⊢
        exact h2.symm
      · exact ⟨c, by rw [List.getElem?_set_ne (Ne.symm e)]; exact h1, h2⟩
    · rintro ⟨c, h1, h2⟩
      rcases get_set hm h1 with ⟨e, h3⟩ | ⟨e, h3⟩
      · subst e h3
        refine ⟨_, hc, ?_⟩
        simp at h2 ⊢
        exact h2.symm
      · exact ⟨c, h3, h2⟩
  · rcases get_set hm he with ⟨e, h3⟩ | ⟨e, h3⟩
    · subst e
      cases h3
      exact (p.done k hk a b t hc).symm
    · exact p.done k hk x y s h3
theorem drop_one (hm : list[i]? = some m) : list.drop i = m :: list.drop (i + 1) := by
  have hlt := (List.getElem?_eq_some_iff.1 hm).1
  rw [List.drop_eq_getElem_cons hlt]
  rw [(List.getElem?_eq_some_iff.1 hm).2]
/-- The other literal holds. -/
theorem PJ.keep (p : PJ n orig gs mk h0 gone list cs tr wl kept i) (hi : list[i]? = some m) {a : Int} {t : Cl} (hc : cs[m]? = some (a :: gone :: t)) {q : Nat} (ha : At tr q a) : PJ n orig gs mk h0 gone list cs tr wl (kept ++ [m]) (i + 1) := by
  refine { p with wlOk := fun l => ?_, done := fun k hk x y s he => ?_ }
  · have := p.wlOk l
    rw [drop_one hi] at this
    simpa [List.append_assoc] using this
  · rcases List.mem_append.1 hk with h1 | h1
    · exact p.done k h1 x y s he
    · rw [List.mem_singleton.1 h1, hc] at he
      cases he
      exact .inr ⟨rfl, q, ha⟩
/-- The clause asks its other literal. -/
theorem PJ.unit (p : PJ n orig gs mk h0 gone list cs tr wl kept i) (hi : list[i]? = some m) {a : Int} {t : Cl} (hc : cs[m]? = some (a :: gone :: t)) (ho : Open tr a) (hf : ∀ x ∈ t, ∃ q, At tr q (-x)) :
    PJ n orig gs mk h0 gone list cs (tr ++ [⟨a, mk.length, (m : Int)⟩]) wl (kept ++ [m]) (i + 1) := by
  have hok := p.cl.ok _ (List.mem_of_getElem? hc) a (by simp)
  have ht := p.trl.asked hok ho (why := (m : Int)) (.inr ⟨m, _, rfl, hc, by simp, fun x hx hne => by
    simp only [List.mem_cons] at hx
    rcases hx with h1 | h1 | h1
    · exact absurd h1 hne
    · rw [h1]; exact ⟨h0, p.at'⟩
    · exact hf x h1⟩)
  have p1 : PJ n orig gs mk h0 gone list cs (tr ++ [⟨a, mk.length, (m : Int)⟩]) wl kept i :=
    ⟨ht, p.cl, p.wat.snoc (Nat.le_of_lt p.at'.lt), at_snoc p.at', p.mks, p.wlOk, fun k hk x y s he => (p.done k hk x y s he).imp (fun ⟨e, q, h⟩ => ⟨e, q, at_snoc h⟩) (fun ⟨e, q, h⟩ => ⟨e, q, at_snoc h⟩)⟩
  exact p1.keep hi hc (q := tr.length) ⟨⟨a, mk.length, (m : Int)⟩, by simp, rfl⟩
/-- Another literal is watched. -/
theorem PJ.move (p : PJ n orig gs mk h0 gone list cs tr wl kept i) (hi : list[i]? = some m) {a x : Int} {t t' : Cl} (hc : cs[m]? = some (a :: gone :: t)) (hx : x ∈ t) (hp : (a :: x :: t').Perm (a :: gone :: t)) (hn : ∀ q, ¬ At tr q (-x)) :
    PJ n orig gs mk h0 gone list (cs.set m (a :: x :: t')) tr (fun l => if l = x then wl x ++ [m] else wl l) kept (i + 1) := by
  have hm := (List.getElem?_eq_some_iff.1 hc).1
  have hone := p.cl.one _ (List.mem_of_getElem? hc)
  have hok := p.cl.ok _ (List.mem_of_getElem? hc)
  have hag : a ≠ gone := fun e => by subst e; simp at hone
  have hxa : x ≠ a := fun e => by
    subst e
    simp only [List.map_cons, List.nodup_cons, List.mem_cons, List.mem_map, not_or] at hone
    exact hone.1.2 ⟨x, hx, rfl⟩
  have hxg : x ≠ gone := fun e => by
    subst e
    simp only [List.map_cons, List.nodup_cons, List.mem_cons, List.mem_map, not_or] at hone
    exact hone.2.1 ⟨x, hx, rfl⟩
  have hmk : m ∉ kept := (p.mem hi).choose_spec.choose_spec.choose_spec.2.2.2.1
  refine ⟨p.trl.perm hc (fun y => hp.mem_iff), p.cl.perm hc hp, fun c hcm u v s he => ?_, p.at', p.mks, fun l => ?_, fun k hk u v s he => ?_⟩
  · rcases mem_set hcm hm with h1 | h1
    · rw [h1] at he
      cases he
      refine ⟨fun q e hq he1 he2 => ?_, fun q e hq he1 he2 => absurd ⟨e, he1, he2⟩ (hn q)⟩
      obtain ⟨q', e', a1, a2, _⟩ := (p.wat _ (List.mem_of_getElem? hc) a gone t rfl).1 q e hq he1 he2
      exact (not_both p.trl ⟨e', a1, a2⟩ p.at').elim
    · exact p.wat c h1 u v s he
  · have hw := p.wlOk l
    rw [drop_one hi] at hw
    by_cases hl : l = gone
    · subst hl
      simp only [if_true] at hw ⊢
      have hnd := hw.1
      refine ⟨hnd.sublist (List.Sublist.append_left (List.sublist_cons_self _ _) _), fun j => ?_⟩
      have hmn : m ∉ kept ++ list.drop (i + 1) := fun hh => by
        rw [List.nodup_append] at hnd
        rcases List.mem_append.1 hh with h1 | h1
        · exact hmk h1
        · have := hnd.2.1
          rw [List.nodup_cons] at this
          exact this.1 h1
      constructor
      · intro hj
        have hne : j ≠ m := fun e => hmn (e ▸ hj)
        obtain ⟨c, h1, h2⟩ := (hw.2 j).1 (by
          rcases List.mem_append.1 hj with h1 | h1
          · exact List.mem_append_left _ h1
          · exact List.mem_append_right _ (List.mem_cons_of_mem _ h1))
        exact ⟨c, by rw [List.getElem?_set_ne (Ne.symm hne)]; exact h1, h2⟩
      · rintro ⟨c, h1, h2⟩
        rcases get_set hm h1 with ⟨e, h3⟩ | ⟨e, h3⟩
        · subst h3
          simp at h2
          exact (h2.elim (fun e => hag e.symm) (fun e => hxg e.symm)).elim
        · have := (hw.2 j).2 ⟨c, h3, h2⟩
          rcases List.mem_append.1 this with h4 | h4
          · exact List.mem_append_left _ h4
          · exact List.mem_append_right _ ((List.mem_cons.1 h4).resolve_left e)
    · simp only [hl, if_false] at hw ⊢
      by_cases hlx : l = x
      · subst hlx
        simp only [if_true]
        have hmx : m ∉ wl l := fun hh => by
          obtain ⟨c, h1, h2⟩ := (hw.2 m).1 hh
          rw [hc] at h1
          cases h1
          simp at h2
          exact h2.elim hxa hxg
        refine ⟨List.nodup_append.2 ⟨hw.1, by simp, fun u hu v hv e => by
          rw [List.mem_singleton.1 hv] at e
          exact hmx (e ▸ hu)⟩, fun j => ?_⟩
        constructor
        · intro hj
          by_cases e : j = m
          · subst e
            exact ⟨_, List.getElem?_set_self hm, by simp⟩
          · rcases List.mem_append.1 hj with h1 | h1
            · obtain ⟨c, h2, h3⟩ := (hw.2 j).1 h1
              exact ⟨c, by rw [List.getElem?_set_ne (Ne.symm e)]; exact h2, h3⟩
            · exact absurd (List.mem_singleton.1 h1) e
        · rintro ⟨c, h1, h2⟩
          rcases get_set hm h1 with ⟨e, h3⟩ | ⟨e, h3⟩
          · exact List.mem_append_right _ (by rw [e]; exact List.mem_singleton_self _)
          · exact List.mem_append_left _ ((hw.2 j).2 ⟨c, h3, h2⟩)
      · simp only [hlx, if_false]
        refine ⟨hw.1, fun j => (hw.2 j).trans ?_⟩
        constructor
        · rintro ⟨c, h1, h2⟩
          by_cases e : j = m
          · subst e
            rw [hc] at h1
            cases h1
            refine ⟨_, List.getElem?_set_self hm, ?_⟩
            simp at h2 ⊢
            exact .inl (h2.resolve_right hl)
          · exact ⟨c, by rw [List.getElem?_set_ne (Ne.symm e)]; exact h1, h2⟩
        · rintro ⟨c, h1, h2⟩
          rcases get_set hm h1 with ⟨e, h3⟩ | ⟨e, h3⟩
          · subst e h3
            refine ⟨_, hc, ?_⟩
            simp at h2 ⊢
            exact .inl (h2.resolve_right hlx)
          · exact ⟨c, h3, h2⟩
  · rcases get_set hm he with ⟨e, h3⟩ | ⟨e, h3⟩
    · exact absurd (e ▸ hk) hmk
    · exact p.done k hk u v s h3
/-- The round is over. -/
theorem PJ.over (p : PJ n orig gs mk h0 gone list cs tr wl kept i) (hi : list.length ≤ i) : Wat cs tr (h0 + 1) ∧ Wl cs (fun l => if l = gone then kept else wl l) := by
  have hd : list.drop i = [] := List.drop_eq_nil_of_le hi
  have hwl : Wl cs (fun l => if l = gone then kept else wl l) := fun l => by
    have := p.wlOk l
    rw [hd, List.append_nil] at this
    exact this
  refine ⟨fun c hc a b t he => ?_, hwl⟩
  obtain ⟨m, hm⟩ := List.mem_iff_getElem?.1 hc
  have hw := p.wat c hc a b t he
  have hone := p.cl.one c hc
  have hok := p.cl.ok c hc
  have hlast : ∀ e, tr[h0]? = some e → e.lev = mk.length := fun e he => by
    rw [p.trl.lev h0 e he]
    unfold levAt
    rw [List.filter_eq_self.2 fun m hm => decide_eq_true (p.mks m hm)]
  have hgone : ∀ e x, tr[h0]? = some e → e.lit = -x → x = gone := fun e x h1 h2 => by
    obtain ⟨e', h3, h4⟩ := p.at'
    rw [h1] at h3
    cases h3
    rw [h2] at h4
    omega
  have hin : ∀ x, x = a ∨ x = b → x = gone → m ∈ kept := fun x hx hg => by
    have := ((hwl gone).2 m).2 ⟨c, hm, by rw [he]; subst hg; rcases hx with h | h <;> simp [h]⟩
    simpa using this
  subst he
  have hab : a ≠ b := fun e => by subst e; simp at hone
  constructor
  · intro q e hq h1 h2
    by_cases hqh : q = h0
    · subst hqh
      have hag := hgone e a h1 h2
      rcases p.done m (hin a (.inl rfl) hag) a b t hm with ⟨_, q', e', h3, h4⟩ | ⟨hb, _⟩
      · exact ⟨q', e', h3, h4, by rw [hlast e h1]; exact lev_le p.trl (List.mem_of_getElem? h3)⟩
      · exact absurd (hag.trans hb.symm) hab
    · exact hw.1 q e (by omega) h1 h2
  · intro q e hq h1 h2
    by_cases hqh : q = h0
    · subst hqh
      have hbg := hgone e b h1 h2
      rcases p.done m (hin b (.inr rfl) hbg) a b t hm with ⟨ha, _⟩ | ⟨_, q', e', h3, h4⟩
      · exact absurd (ha.trans hbg.symm) hab
      · exact ⟨q', e', h3, h4, by rw [hlast e h1]; exact lev_le p.trl (List.mem_of_getElem? h3)⟩
    · exact hw.2 q e (by omega) h1 h2
end
end Sat
end Go.Proofs.Ytkeagjphddcjeaa
