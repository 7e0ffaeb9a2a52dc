/-
  Two texts of tags, one behind the other. Plain words; no conditions beyond those typed.
-/
import Derived.Test.YtjcefgjgjhdbpaaGreatDoorSuseSpec
namespace Go.Proofs.YtjcefgjgjhdbpaaGreatDoor
set_option linter.unusedVariables false
set_option linter.unusedSimpArgs false

theorem line_at : ∀ (p : List UInt8) (q : List UInt8), (∀ c ∈ p, c ≠ 10) → lineOf (p ++ 10 :: q) = p ∧ restOf (p ++ 10 :: q) = q
  | [], q, _ => ⟨rfl, rfl⟩
  | c :: p, q, h => by
    have h1 : (c != 10) = true := by simpa using h c (by simp)
    have ih := line_at p q (fun d hd => h d (List.mem_cons_of_mem _ hd))
    unfold lineOf restOf at ih ⊢
    rw [List.cons_append, List.takeWhile_cons, List.dropWhile_cons, if_pos h1, if_pos h1, ih.1]
    exact ⟨rfl, ih.2⟩
theorem line_end : ∀ (p : List UInt8), (∀ c ∈ p, c ≠ 10) → lineOf p = p ∧ restOf p = []
  | [], _ => ⟨rfl, rfl⟩
  | c :: p, h => by
    have h1 : (c != 10) = true := by simpa using h c (by simp)
    have ih := line_end p (fun d hd => h d (List.mem_cons_of_mem _ hd))
    unfold lineOf restOf at ih ⊢
    rw [List.takeWhile_cons, List.dropWhile_cons, if_pos h1, if_pos h1, ih.1]
    exact ⟨rfl, ih.2⟩
theorem split10 : ∀ l : List UInt8, (∀ c ∈ l, c ≠ 10) ∨ ∃ p q, l = p ++ 10 :: q ∧ ∀ c ∈ p, c ≠ 10
  | [] => .inl (by simp)
  | c :: l => by
    by_cases h : c = 10
    · exact .inr ⟨[], l, by rw [h]; rfl, by simp⟩
    · rcases split10 l with h1 | ⟨p, q, h1, h2⟩
      · refine .inl fun d hd => ?_
        rcases List.mem_cons.1 hd with rfl | hd
        · exact h
        · exact h1 d hd
      · refine .inr ⟨c :: p, q, by rw [h1]; rfl, fun d hd => ?_⟩
        rcases List.mem_cons.1 hd with rfl | hd
        · exact h
        · exact h2 d hd
theorem linesB_join : ∀ (n : Nat) (one two : List UInt8), one.length ≤ n → ∃ x : List Wd, (x = [] ∨ x = [[]]) ∧ linesB (one ++ 10 :: two) = linesB one ++ (x ++ linesB two)
  | n, one, two, hn => by
    rcases split10 one with h | ⟨p, q, h, hp⟩
    · obtain ⟨h1, h2⟩ := line_at one two h
      rw [linesB_cons (by simp), h1, h2]
      cases one with
      | nil => exact ⟨[[]], .inr rfl, rfl⟩
      | cons c l =>
        obtain ⟨h3, h4⟩ := line_end (c :: l) h
        rw [linesB_cons (l := c :: l) (by simp), h3, h4]
        exact ⟨[], .inl rfl, rfl⟩
    · cases n with
      | zero =>
        rw [h, List.length_append, List.length_cons] at hn
        omega
      | succ n =>
        obtain ⟨x, hx, ih⟩ := linesB_join n q two (by rw [h, List.length_append, List.length_cons] at hn; omega)
        refine ⟨x, hx, ?_⟩
        obtain ⟨h1, h2⟩ := line_at p (q ++ 10 :: two) hp
        obtain ⟨h3, h4⟩ := line_at p q hp
        rw [h, List.append_assoc, List.cons_append, linesB_cons (by simp), h1, h2, ih, linesB_cons (l := p ++ 10 :: q) (by simp), h3, h4]
        rfl
/-- The state of a reading that may go on. -/
def Inv (st : SSt) : Prop := match st.cur with
  | none => st.out = []
  | some _ => st.out.length < 200
theorem whole_some {st : SSt} {p : SP} (h : st.cur = some p) : wholeS st = if pkgCheck p.pkg = 0 then (st.out ++ [p.pkg], 0) else (st.out, pkgCheck p.pkg) := by
  unfold wholeS
  rw [h]
theorem whole_none {st : SSt} (h : st.cur = none) : wholeS st = (st.out, 0) := by
  unfold wholeS
  rw [h]
theorem pack_ok {st st' : SSt} {v : Wd} (h : packS st v = .ok st') : (wholeS st).2 = 0 ∧ st'.out = (wholeS st).1 ∧ st'.out.length < 200 ∧ ∃ a b c d, fieldsS v = [a, b, c, d] ∧ st'.cur = some (newSP a b c d) := by
  unfold packS at h
  split at h
  · cases h
  · rename_i h1
    split at h
    · cases h
    · rename_i h2
      split at h
      · rename_i a b c d h3
        injection h with h
        subst h
        exact ⟨by simpa using h1, rfl, by show (wholeS st).1.length < 200; omega, a, b, c, d, h3, rfl⟩
      · cases h
theorem put_ok {st st' : SSt} {t v : Wd} (h : putS st t v = .ok st') : st'.out = st.out ∧ (st.cur = none → st' = st) ∧ ∀ p, st.cur = some p → ∃ q, putP p t v = some q ∧ st' = ⟨st.out, some q⟩ := by
  unfold putS at h
  cases e : st.cur with
  | none =>
    rw [e] at h
    injection h with h
    subst h
    exact ⟨rfl, fun _ => rfl, fun p hp => by cases hp⟩
  | some p =>
    rw [e] at h
    simp only at h
    cases e2 : putP p t v with
    | none => rw [e2] at h; cases h
    | some q =>
      rw [e2] at h
      injection h with h
      subst h
      exact ⟨rfl, fun h => (by cases h), fun p' hp => (by injection hp with hp; subst hp; exact ⟨q, e2, rfl⟩)⟩
/-- The two readings. -/
inductive JRel (a : List PkgT) (s t : SSt) : Prop
  | first (h1 : s.cur = none) (h2 : s.out = []) (h3 : wholeS t = (a, 0)) (h4 : Inv t)
  | then_ (p : SP) (h1 : s.cur = some p) (h2 : t.cur = some p) (h3 : t.out = a ++ s.out) (h4 : t.out.length < 200)
theorem ver_no : listOf verW = none := by decide
theorem put_ver (p : SP) (v : Wd) : putP p verW v = some p := by
  unfold putP
  rw [if_neg (by decide), if_neg (by decide), ver_no]
/-- A line, read in both. -/
theorem one_join {a : List PkgT} {s t s' : SSt} (h : JRel a s t) {tg rest : Wd} (e : oneS s tg rest = .ok s') :
    (∃ t', oneS t tg rest = .ok t' ∧ JRel a s' t' ∧ (s.cur ≠ none → s'.cur ≠ none)) ∨ (oneS t tg rest = .err 131 ∧ 200 ≤ a.length + s'.out.length ∧ s'.cur ≠ none) := by
  unfold oneS at e ⊢
  by_cases hp : tg = pkgW
  · rw [if_pos hp] at e ⊢
    obtain ⟨e1, e2, e3, w1, w2, w3, w4, e4, e5⟩ := pack_ok e
    have hw : (wholeS t).2 = 0 ∧ (wholeS t).1 = a ++ s'.out := by
      cases h with
      | first h1 h2 h3 h4 =>
        rw [whole_none h1, h2] at e2
        rw [h3, e2]
        exact ⟨rfl, by simp⟩
      | then_ p h1 h2 h3 h4 =>
        rw [whole_some h1] at e1 e2
        rw [whole_some h2]
        split at e1
        · rename_i hc
          rw [if_pos hc] at e2 ⊢
          refine ⟨rfl, ?_⟩
          rw [e2, h3]
          simp
        · rename_i hc
          exact absurd e1 hc
    unfold packS
    rw [hw.1, hw.2, if_neg (by simp)]
    by_cases h200 : 200 ≤ (a ++ s'.out).length
    · rw [if_pos h200]
      refine .inr ⟨rfl, by rw [List.length_append] at h200; exact h200, by rw [e5]; simp⟩
    · rw [if_neg h200, e4]
      refine .inl ⟨_, rfl, .then_ _ e5 rfl rfl (by show (a ++ s'.out).length < 200; omega), fun _ => by rw [e5]; simp⟩
  · rw [if_neg hp] at e ⊢
    cases h with
    | first h1 h2 h3 h4 =>
      rw [h1] at e
      simp only at e
      split at e
      · rename_i hv
        injection e with e
        subst e
        cases ht : t.cur with
        | none => exact .inl ⟨t, by simp only [if_pos hv], .first h1 h2 h3 h4, fun h => absurd h1 h⟩
        | some q =>
          refine .inl ⟨t, ?_, .first h1 h2 h3 h4, fun h => absurd h1 h⟩
          simp only [putS, ht, hv, put_ver]
          cases t
          simp only at ht
          rw [ht]
      · cases e
    | then_ p h1 h2 h3 h4 =>
      rw [h1] at e
      rw [h2]
      simp only at e ⊢
      obtain ⟨e1, _, e3⟩ := put_ok e
      obtain ⟨q, e4, e5⟩ := e3 p h1
      refine .inl ⟨⟨t.out, some q⟩, by simp only [putS, h2, e4], .then_ q (by rw [e5]) rfl (by rw [e1]; exact h3) h4, fun _ => by rw [e5]; simp⟩
theorem step_join {a : List PkgT} {s t s' : SSt} {m m' : Option Wd} (h : JRel a s t) (hm : m ≠ none → s.cur ≠ none) {ln : Wd} (e : stepS m ln s = .go m' s') :
    (∃ t', stepS m ln t = .go m' t' ∧ JRel a s' t' ∧ (m' ≠ none → s'.cur ≠ none)) ∨ (stepS m ln t = .err 131 ∧ 200 ≤ a.length + s'.out.length ∧ s'.cur ≠ none) := by
  cases m with
  | none =>
    have e : stepN ln s = .go m' s' := e
    show (∃ t', stepN ln t = .go m' t' ∧ _) ∨ (stepN ln t = .err 131 ∧ _)
    unfold stepN at e ⊢
    by_cases h1 : trimT ln = [] ∨ ln.head? = some 35
    · rw [if_pos h1] at e ⊢
      injection e with e2 e3
      subst e2 e3
      exact .inl ⟨t, rfl, h, fun h => absurd rfl h⟩
    · rw [if_neg h1] at e ⊢
      cases ht : tagOf ln with
      | none => rw [ht] at e; cases e
      | some x =>
        obtain ⟨tg, rest⟩ := x
        rw [ht] at e
        simp only at e ⊢
        by_cases h2 : ln.head? = some 61
        · rw [if_pos h2] at e ⊢
          cases ho : oneS s tg rest with
          | err x => rw [ho] at e; cases e
          | ok s2 =>
            rw [ho] at e
            injection e with e2 e3
            subst e2 e3
            rcases one_join h ho with ⟨t', h3, h4, h5⟩ | ⟨h3, h4, h5⟩
            · exact .inl ⟨t', by rw [h3]; rfl, h4, fun h => absurd rfl h⟩
            · exact .inr ⟨by rw [h3]; rfl, h4, h5⟩
        · rw [if_neg h2] at e ⊢
          by_cases h3 : ln.head? = some 43 ∧ trimT rest = [] ∧ s.cur.isSome = true
          · rw [if_pos h3] at e
            injection e with e2 e3
            subst e2 e3
            cases h with
            | first k1 k2 k3 k4 =>
              have := h3.2.2
              rw [k1] at this
              cases this
            | then_ p k1 k2 k3 k4 =>
              refine .inl ⟨t, by rw [if_pos ⟨h3.1, h3.2.1, by rw [k2]; rfl⟩], .then_ p k1 k2 k3 k4, fun _ => by rw [k1]; simp⟩
          · rw [if_neg h3] at e
            cases e
  | some tg =>
    have e : stepB tg ln s = .go m' s' := e
    show (∃ t', stepB tg ln t = .go m' t' ∧ _) ∨ (stepB tg ln t = .err 131 ∧ _)
    have hc := hm (by simp)
    unfold stepB at e ⊢
    by_cases h1 : closesB ln tg = true
    · rw [if_pos h1] at e ⊢
      injection e with e2 e3
      subst e2 e3
      exact .inl ⟨t, rfl, h, fun h => absurd rfl h⟩
    · rw [if_neg h1] at e ⊢
      by_cases h2 : trimT ln = []
      · rw [if_pos h2] at e ⊢
        injection e with e2 e3
        subst e2 e3
        exact .inl ⟨t, rfl, h, fun _ => hc⟩
      · rw [if_neg h2] at e ⊢
        cases h with
        | first k1 k2 k3 k4 => exact absurd k1 hc
        | then_ p k1 k2 k3 k4 =>
          cases ho : putS s tg ln with
          | err x => rw [ho] at e; cases e
          | ok s2 =>
            rw [ho] at e
            injection e with e2 e3
            subst e2 e3
            obtain ⟨e1, _, e3⟩ := put_ok ho
            obtain ⟨q, e4, e5⟩ := e3 p k1
            refine .inl ⟨⟨t.out, some q⟩, by simp only [putS, k2, e4, goR], .then_ q (by rw [e5]) rfl (by rw [e1]; exact k3) k4, fun _ => by rw [e5]; simp⟩
theorem goR_err {m : Option Wd} {r : SRes} {x : Int} (h : goR m r = .err x) : r = .err x := by
  cases r with
  | err e => injection h with h; rw [h]
  | ok st => cases h
theorem put_err {st : SSt} {t v : Wd} {x : Int} (h : putS st t v = .err x) : x = 130 := by
  unfold putS at h
  split at h
  · cases h
  · split at h
    · injection h with h; exact h.symm
    · cases h
theorem one_err {st : SSt} {t v : Wd} {x : Int} (h : oneS st t v = .err x) : x ≠ 0 := by
  unfold oneS at h
  split at h
  · unfold packS at h
    split at h
    · rename_i h1
      injection h with h
      rw [← h]
      exact h1
    · split at h
      · injection h with h
        rw [← h]
        decide
      · split at h
        · cases h
        · injection h with h
          rw [← h]
          decide
  · split at h
    · split at h
      · cases h
      · injection h with h
        rw [← h]
        decide
    · rw [put_err h]
      decide
theorem step_err {m : Option Wd} {s : Wd} {st : SSt} {x : Int} (h : stepS m s st = .err x) : x ≠ 0 := by
  cases m with
  | none =>
    have h : stepN s st = .err x := h
    unfold stepN at h
    split at h
    · cases h
    · split at h
      · injection h with h
        rw [← h]
        decide
      · split at h
        · exact one_err (goR_err h)
        · split at h
          · cases h
          · injection h with h
            rw [← h]
            decide
  | some t =>
    have h : stepB t s st = .err x := h
    unfold stepB at h
    split at h
    · cases h
    · split at h
      · cases h
      · rw [put_err (goR_err h)]
        decide
/-- What a line leaves of the packages. -/
theorem one_out {st st' : SSt} {t v : Wd} (h : oneS st t v = .ok st') (hc : st.cur ≠ none) : st.out.length ≤ st'.out.length ∧ st'.cur ≠ none := by
  unfold oneS at h
  cases hp : st.cur with
  | none => exact absurd hp hc
  | some p =>
    split at h
    · obtain ⟨e1, e2, _, _, _, _, _, _, e5⟩ := pack_ok h
      rw [whole_some hp] at e1 e2
      refine ⟨?_, by rw [e5]; simp⟩
      rw [e2]
      split
      · simp
      · exact Nat.le_refl _
    · rw [hp] at h
      obtain ⟨e1, _, e3⟩ := put_ok h
      obtain ⟨q, _, e5⟩ := e3 p hp
      exact ⟨Nat.le_of_eq (by rw [e1]), by rw [e5]; simp⟩
theorem step_out {m m' : Option Wd} {s : Wd} {st st' : SSt} (h : stepS m s st = .go m' st') (hc : st.cur ≠ none) : st.out.length ≤ st'.out.length ∧ st'.cur ≠ none := by
  cases m with
  | none =>
    have h : stepN s st = .go m' st' := h
    unfold stepN at h
    split at h
    · injection h with _ h
      rw [← h]
      exact ⟨Nat.le_refl _, hc⟩
    · split at h
      · cases h
      · split at h
        · rename_i tg rest _ _
          cases ho : oneS st tg rest with
          | err x => rw [ho] at h; cases h
          | ok s2 =>
            rw [ho] at h
            injection h with _ h
            rw [← h]
            exact one_out ho hc
        · split at h
          · injection h with _ h
            rw [← h]
            exact ⟨Nat.le_refl _, hc⟩
          · cases h
  | some t =>
    have h : stepB t s st = .go m' st' := h
    unfold stepB at h
    split at h
    · injection h with _ h
      rw [← h]
      exact ⟨Nat.le_refl _, hc⟩
    · split at h
      · injection h with _ h
        rw [← h]
        exact ⟨Nat.le_refl _, hc⟩
      · cases ho : putS st t s with
        | err x => rw [ho] at h; cases h
        | ok s2 =>
          rw [ho] at h
          injection h with _ h
          rw [← h]
          obtain ⟨e1, _, e3⟩ := put_ok ho
          cases hp : st.cur with
          | none => exact absurd hp hc
          | some p =>
            obtain ⟨q, _, e5⟩ := e3 p hp
            exact ⟨Nat.le_of_eq (by rw [e1]), by rw [e5]; simp⟩
/-- What was read so far is among what is read in the end. -/
theorem run_more : ∀ (l : List Wd) (m : Option Wd) (s : SSt) (b : List PkgT), runS m l s = (b, 0) → s.cur ≠ none → s.out.length < b.length
  | [], none, s, b, h, hc => by
    have h : endS s = (b, 0) := h
    cases e : s.cur with
    | none => exact absurd e hc
    | some p =>
      unfold endS at h
      rw [whole_some e] at h
      by_cases h1 : pkgCheck p.pkg = 0
      · rw [if_pos h1, if_neg (by simp)] at h
        injection h with h
        rw [← h]
        simp
      · rw [if_neg h1, if_pos h1] at h
        injection h with _ h
        exact absurd h h1
  | [], some t, s, b, h, hc => by cases h
  | ln :: l, m, s, b, h, hc => by
    rw [runS_cons] at h
    cases e : stepS m ln s with
    | err x =>
      rw [e] at h
      injection h with h1 h2
      exact absurd h2 (step_err e)
    | go m' s' =>
      rw [e] at h
      simp only at h
      obtain ⟨h1, h2⟩ := step_out e hc
      have := run_more l m' s' b h h2
      omega
/-- One text's lines, read behind another's. -/
theorem run_join {a : List PkgT} (ha : a.length ≤ 200) : ∀ (l : List Wd) (m : Option Wd) (s t : SSt) (b : List PkgT), JRel a s t → (m ≠ none → s.cur ≠ none) → runS m l s = (b, 0) →
    (runS m l t = (a ++ b, 0) ∧ a.length + b.length ≤ 200) ∨ (runS m l t = ([], 131) ∧ 200 < a.length + b.length)
  | [], none, s, t, b, hr, hm, h => by
    have h : endS s = (b, 0) := h
    show (endS t = (a ++ b, 0) ∧ _) ∨ (endS t = ([], 131) ∧ _)
    unfold endS at h ⊢
    cases hr with
    | first h1 h2 h3 h4 =>
      rw [whole_none h1, h2, if_neg (by simp)] at h
      injection h with h
      rw [h3, if_neg (by simp), ← h]
      exact .inl ⟨by simp, by simpa using ha⟩
    | then_ p h1 h2 h3 h4 =>
      rw [whole_some h1] at h
      rw [whole_some h2]
      by_cases hc : pkgCheck p.pkg = 0
      · rw [if_pos hc, if_neg (by simp)] at h
        rw [if_pos hc, if_neg (by simp)]
        injection h with h
        rw [← h]
        rw [h3, List.length_append] at h4
        refine .inl ⟨by rw [h3]; simp, ?_⟩
        rw [List.length_append]
        show a.length + (s.out.length + 1) ≤ 200
        omega
      · rw [if_neg hc, if_pos hc] at h
        injection h with _ h
        exact absurd h hc
  | [], some t', s, t, b, hr, hm, h => by cases h
  | ln :: l, m, s, t, b, hr, hm, h => by
    rw [runS_cons] at h
    cases e : stepS m ln s with
    | err x =>
      rw [e] at h
      injection h with h1 h2
      exact absurd h2 (step_err e)
    | go m' s' =>
      rw [e] at h
      simp only at h
      rw [runS_cons]
      rcases step_join hr hm e with ⟨t', h1, h2, h3⟩ | ⟨h1, h2, h3⟩
      · rw [h1]
        exact run_join ha l m' s' t' b h2 h3 h
      · rw [h1]
        have := run_more l m' s' b h h3
        exact .inr ⟨rfl, by omega⟩
theorem one_inv {st st' : SSt} {t v : Wd} (hi : Inv st) (h : oneS st t v = .ok st') : Inv st' := by
  unfold oneS at h
  split at h
  · obtain ⟨_, _, e3, _, _, _, _, _, e5⟩ := pack_ok h
    unfold Inv
    rw [e5]
    exact e3
  · cases hp : st.cur with
    | none =>
      rw [hp] at h
      simp only at h
      split at h
      · injection h with h
        rw [← h]
        exact hi
      · cases h
    | some p =>
      rw [hp] at h
      obtain ⟨e1, _, e3⟩ := put_ok h
      obtain ⟨q, _, e5⟩ := e3 p hp
      unfold Inv at hi ⊢
      rw [hp] at hi
      rw [e5]
      exact hi
theorem step_inv {m m' : Option Wd} {s : Wd} {st st' : SSt} (hi : Inv st) (h : stepS m s st = .go m' st') : Inv st' := by
  cases m with
  | none =>
    have h : stepN s st = .go m' st' := h
    unfold stepN at h
    split at h
    · injection h with _ h
      rw [← h]
      exact hi
    · split at h
      · cases h
      · split at h
        · rename_i tg rest _ _
          cases ho : oneS st tg rest with
          | err x => rw [ho] at h; cases h
          | ok s2 =>
            rw [ho] at h
            injection h with _ h
            rw [← h]
            exact one_inv hi ho
        · split at h
          · injection h with _ h
            rw [← h]
            exact hi
          · cases h
  | some t =>
    have h : stepB t s st = .go m' st' := h
    unfold stepB at h
    split at h
    · injection h with _ h
      rw [← h]
      exact hi
    · split at h
      · injection h with _ h
        rw [← h]
        exact hi
      · cases ho : putS st t s with
        | err x => rw [ho] at h; cases h
        | ok s2 =>
          rw [ho] at h
          injection h with _ h
          rw [← h]
          obtain ⟨e1, e2, e3⟩ := put_ok ho
          cases hp : st.cur with
          | none => rw [e2 hp]; exact hi
          | some p =>
            obtain ⟨q, _, e5⟩ := e3 p hp
            unfold Inv at hi ⊢
            rw [hp] at hi
            rw [e5]
            exact hi
/-- A text that is read leaves a state behind. -/
theorem run_state : ∀ (l : List Wd) (m : Option Wd) (st : SSt) (a : List PkgT), Inv st → runS m l st = (a, 0) → ∃ s1, runL m l st = .go none s1 ∧ wholeS s1 = (a, 0) ∧ Inv s1
  | [], none, st, a, hi, h => by
    have h : endS st = (a, 0) := h
    refine ⟨st, rfl, ?_, hi⟩
    unfold endS at h
    split at h
    · rename_i h1
      injection h with _ h
      exact absurd h h1
    · rename_i h1
      injection h with h
      have h2 : (wholeS st).2 = 0 := Classical.not_not.1 h1
      rw [← h, ← h2]
  | [], some t, st, a, hi, h => by cases h
  | s :: l, m, st, a, hi, h => by
    rw [runS_cons] at h
    cases e : stepS m s st with
    | err x =>
      rw [e] at h
      injection h with _ h2
      exact absurd h2 (step_err e)
    | go m' st' =>
      rw [e] at h
      obtain ⟨s1, h1, h2⟩ := run_state l m' st' a (step_inv hi e) h
      refine ⟨s1, ?_, h2⟩
      rw [runL, e]
      exact h1
theorem whole_len {st : SSt} {a : List PkgT} (hi : Inv st) (h : wholeS st = (a, 0)) : a.length ≤ 200 := by
  unfold Inv at hi
  cases e : st.cur with
  | none =>
    rw [e] at hi
    rw [whole_none e, hi] at h
    injection h with h
    rw [← h]
    simp
  | some p =>
    rw [e] at hi
    rw [whole_some e] at h
    split at h
    · injection h with h
      rw [← h, List.length_append]
      show st.out.length + 1 ≤ 200
      have hi : st.out.length < 200 := hi
      omega
    · rename_i hc
      injection h with _ h
      exact absurd h hc
/-- Two texts, one behind the other. -/
theorem parse_join {one two : ByteArray} {a b : List PkgT} {all : ByteArray} (hb : bs all = bs one ++ 10 :: bs two) (hs : all.size ≤ 40000) (h1 : suseParse one = (a, 0)) (h2 : suseParse two = (b, 0)) :
    (suseParse all = (a ++ b, 0) ∧ a.length + b.length ≤ 200) ∨ (suseParse all = ([], 131) ∧ 200 < a.length + b.length) := by
  have hi0 : Inv ⟨[], none⟩ := rfl
  unfold suseParse at h1 h2 ⊢
  rw [if_neg (by omega)]
  split at h1
  · injection h1 with _ h1
    cases h1
  · split at h2
    · injection h2 with _ h2
      cases h2
    · obtain ⟨s1, k1, k2, k3⟩ := run_state _ _ _ _ hi0 h1
      obtain ⟨x, hx, e⟩ := linesB_join _ (bs one) (bs two) (Nat.le_refl _)
      rw [hb, e, runS_append, k1]
      have hr : JRel a ⟨[], none⟩ s1 := .first rfl rfl k2 k3
      have hj := run_join (whole_len k3 k2) (linesB (bs two)) none ⟨[], none⟩ s1 b hr (fun h => absurd rfl h) h2
      rcases hx with rfl | rfl
      · exact hj
      · show (runS none ([] :: linesB (bs two)) s1 = _ ∧ _) ∨ (runS none ([] :: linesB (bs two)) s1 = _ ∧ _)
        rw [runS_cons, show stepS none [] s1 = .go none s1 from rfl]
        exact hj
end Go.Proofs.YtjcefgjgjhdbpaaGreatDoor
