/-
  Directories have one number each: the plain law. Helper text; the conditions are those typed.
-/
import Derived.Test.YtnplmembdfklcaaGreatDoorDirLaw
namespace Go.Proofs.YtnplmembdfklcaaGreatDoor
set_option linter.unusedVariables false
set_option linter.unusedSimpArgs false

abbrev DirL := List (List UInt8 × Nat)
def noRoot (x : List UInt8) : List UInt8 := if x = [47] then [] else x
/-- Each directory lies in an earlier one, by a part. -/
structure DirsOK (ds : DirL) : Prop where
  root : ds[0]? = some ([47], 0)
  up : ∀ i d, ds[i]? = some d → i ≠ 0 → d.2 < i ∧ ∃ e part, ds[d.2]? = some e ∧ part ≠ [] ∧ 47 ∉ part ∧ d.1 = noRoot e.1 ++ 47 :: part
  one : ∀ i d, ds[i]? = some d → idxD ds d.1 = some i
theorem dirs0 : DirsOK [([47], 0)] := ⟨rfl, fun i d h hi => by
  match i with
  | 0 => exact absurd rfl hi
  | i + 1 => simp at h, fun i d h => by
  match i with
  | 0 =>
    simp at h
    subst h
    rfl
  | i + 1 => simp at h⟩
theorem idxD_pre {ds r : DirL} {p : List UInt8} {n : Nat} (h : idxD ds p = some n) : idxD (ds ++ r) p = some n := by
  unfold idxD at *
  rw [List.findIdx?_append, h]
  rfl
theorem idxD_at {ds : DirL} {p : List UInt8} {n : Nat} (h : idxD ds p = some n) : ∃ d, ds[n]? = some d ∧ d.1 = p := by
  obtain ⟨hi, h2⟩ := idxD_lt h
  exact ⟨ds[n], by simp [hi], h2⟩
theorem DirsOK.snoc {ds : DirL} (h : DirsOK ds) {u : Nat} {e : List UInt8 × Nat} (hu : ds[u]? = some e) {q : List UInt8} (hq : q ≠ []) (hq2 : 47 ∉ q) (hn : idxD ds (noRoot e.1 ++ 47 :: q) = none) : DirsOK (ds ++ [(noRoot e.1 ++ 47 :: q, u)]) := by
  have hul : u < ds.length := (List.getElem?_eq_some_iff.1 hu).1
  have hpre : ∀ i d, ds[i]? = some d → (ds ++ [(noRoot e.1 ++ 47 :: q, u)])[i]? = some d := fun i d hd => by
    rw [List.getElem?_append_left (List.getElem?_eq_some_iff.1 hd).1]
    exact hd
  have hcase : ∀ i d, (ds ++ [(noRoot e.1 ++ 47 :: q, u)])[i]? = some d → (ds[i]? = some d) ∨ (i = ds.length ∧ d = (noRoot e.1 ++ 47 :: q, u)) := fun i d hd => by
    by_cases hi : i < ds.length
    · rw [List.getElem?_append_left hi] at hd
      exact .inl hd
    · have hi2 : i = ds.length := by
        have := (List.getElem?_eq_some_iff.1 hd).1
        simp at this
        omega
      subst hi2
      simp at hd
      exact .inr ⟨rfl, hd.symm⟩
  refine ⟨hpre _ _ h.root, fun i d hd hi => ?_, fun i d hd => ?_⟩
  · rcases hcase i d hd with h1 | ⟨h1, h2⟩
    · obtain ⟨a, e', part, b, c, d', f⟩ := h.up i d h1 hi
      exact ⟨a, e', part, hpre _ _ b, c, d', f⟩
    · subst h1 h2
      exact ⟨hul, e, q, hpre _ _ hu, hq, hq2, rfl⟩
  · rcases hcase i d hd with h1 | ⟨h1, h2⟩
    · exact idxD_pre (h.one i d h1)
    · subst h1 h2
      show idxD _ (noRoot e.1 ++ 47 :: q) = _
      rw [idxD_snoc, hn]
      simp

theorem long_ne (a q : List UInt8) (hq : q ≠ []) : noRoot (a ++ 47 :: q) = a ++ 47 :: q := by
  unfold noRoot
  refine if_neg fun e => ?_
  cases a with
  | nil =>
    have h2 : (47 : UInt8) :: q = [47] := e
    injection h2 with _ h3
    exact hq h3
  | cons x a =>
    have h2 : x :: (a ++ 47 :: q) = [47] := e
    injection h2 with _ h3
    simp at h3
/-- Dir's way. -/
theorem runD_ok : ∀ (qs : List (List UInt8)) (ds : DirL) (u : Nat) (e : List UInt8 × Nat), DirsOK ds → ds[u]? = some e → (∀ q ∈ qs, q ≠ [] ∧ 47 ∉ q) →
    ∃ r, DirsOK (runD ds u (upsFrom (noRoot e.1) qs)).1 ∧ (runD ds u (upsFrom (noRoot e.1) qs)).1 = ds ++ r ∧ (∃ d, (runD ds u (upsFrom (noRoot e.1) qs)).1[(runD ds u (upsFrom (noRoot e.1) qs)).2]? = some d ∧ d.1 = if qs = [] then e.1 else atAll (noRoot e.1) qs) ∧
      (∀ x ∈ upsFrom (noRoot e.1) qs, (idxD (runD ds u (upsFrom (noRoot e.1) qs)).1 x).isSome = true)
  | [], ds, u, e, hok, hu, _ => ⟨[], hok, (List.append_nil _).symm, ⟨e, hu, rfl⟩, fun x h => by cases h⟩
  | q :: qs, ds, u, e, hok, hu, hq => by
    obtain ⟨h1, h2⟩ := hq q (List.mem_cons_self ..)
    have hq' : ∀ x ∈ qs, x ≠ [] ∧ 47 ∉ x := fun x hx => hq x (List.mem_cons_of_mem _ hx)
    have hnr := long_ne (noRoot e.1) q h1
    have hfin : ∀ qs : List (List UInt8), (if qs = [] then noRoot e.1 ++ 47 :: q else atAll (noRoot (noRoot e.1 ++ 47 :: q)) qs) = atAll (noRoot e.1) (q :: qs) := fun qs => by
      rw [hnr]
      by_cases hqs : qs = []
      · rw [if_pos hqs, hqs]
        rfl
      · rw [if_neg hqs]
        rfl
    have hups : upsFrom (noRoot e.1) (q :: qs) = (noRoot e.1 ++ 47 :: q) :: upsFrom (noRoot e.1 ++ 47 :: q) qs := rfl
    cases hi : idxD ds (noRoot e.1 ++ 47 :: q) with
    | some n =>
      obtain ⟨d, hd1, hd2⟩ := idxD_at hi
      have ih := runD_ok qs ds n d hok hd1 hq'
      rw [hd2, hnr] at ih
      have hr : runD ds u (upsFrom (noRoot e.1) (q :: qs)) = runD ds n (upsFrom (noRoot e.1 ++ 47 :: q) qs) := by
        rw [hups]
        show (match idxD ds (noRoot e.1 ++ 47 :: q) with | some n => _ | none => _) = _
        rw [hi]
      rw [hr]
      obtain ⟨r, i1, i2, ⟨d', i3, i4⟩, i5⟩ := ih
      refine ⟨r, i1, i2, ⟨d', i3, ?_⟩, fun x hx => ?_⟩
      · have := hfin qs
        rw [hnr] at this
        rw [i4, this]
        exact (if_neg (List.cons_ne_nil q qs)).symm
      · rw [hups] at hx
        rcases List.mem_cons.1 hx with hx | hx
        · subst hx
          rw [i2, idxD_pre hi]
          rfl
        · exact i5 x hx
    | none =>
      have hok' := hok.snoc hu h1 h2 hi
      have hlast : (ds ++ [(noRoot e.1 ++ 47 :: q, u)])[ds.length]? = some (noRoot e.1 ++ 47 :: q, u) := by simp
      have ih := runD_ok qs (ds ++ [(noRoot e.1 ++ 47 :: q, u)]) ds.length (noRoot e.1 ++ 47 :: q, u) hok' hlast hq'
      simp only [hnr] at ih
      have hr : runD ds u (upsFrom (noRoot e.1) (q :: qs)) = runD (ds ++ [(noRoot e.1 ++ 47 :: q, u)]) ds.length (upsFrom (noRoot e.1 ++ 47 :: q) qs) := by
        rw [hups]
        show (match idxD ds (noRoot e.1 ++ 47 :: q) with | some n => _ | none => _) = _
        rw [hi]
      rw [hr]
      obtain ⟨r, i1, i2, ⟨d', i3, i4⟩, i5⟩ := ih
      refine ⟨(noRoot e.1 ++ 47 :: q, u) :: r, i1, by rw [i2]; simp, ⟨d', i3, ?_⟩, fun x hx => ?_⟩
      · have := hfin qs
        rw [hnr] at this
        rw [i4, this]
        exact (if_neg (List.cons_ne_nil q qs)).symm
      · rw [hups] at hx
        rcases List.mem_cons.1 hx with hx | hx
        · subst hx
          rw [i2, idxD_pre (hok'.one _ _ hlast)]
          rfl
        · exact i5 x hx
theorem runD_len : ∀ (l : List (List UInt8)) (ds : DirL) (u : Nat), (runD ds u l).1.length ≤ ds.length + l.length
  | [], _, _ => Nat.le_refl _
  | p :: l, ds, u => by
    rw [show runD ds u (p :: l) = (match idxD ds p with | some n => runD ds n l | none => runD (ds ++ [(p, u)]) ds.length l) from rfl]
    cases idxD ds p with
    | some n =>
      have := runD_len l ds n
      simp only [List.length_cons]
      omega
    | none =>
      have := runD_len l (ds ++ [(p, u)]) ds.length
      rw [List.length_append, List.length_singleton] at this
      simp only [List.length_cons]
      omega
theorem runD_known : ∀ (l : List (List UInt8)) (ds : DirL) (u : Nat), (runD ds u l).1.length + knownD ds l ≤ ds.length + l.length
  | [], _, _ => Nat.le_refl _
  | p :: l, ds, u => by
    have h0 := runD_len (p :: l) ds u
    unfold knownD
    cases hi : idxD ds p with
    | some n =>
      rw [if_pos (by rw [Option.isSome_some])]
      have := runD_known l ds n
      rw [show runD ds u (p :: l) = (match idxD ds p with | some n => runD ds n l | none => runD (ds ++ [(p, u)]) ds.length l) from rfl, hi]
      simp only [List.length_cons]
      omega
    | none =>
      rw [if_neg (by simp)]
      omega
theorem known_full (ds : DirL) : ∀ (l : List (List UInt8)), (∀ x ∈ l, (idxD ds x).isSome = true) → knownD ds l = l.length
  | [], _ => rfl
  | p :: l, h => by
    unfold knownD
    rw [if_pos (h p (List.mem_cons_self ..)), known_full ds l (fun x hx => h x (List.mem_cons_of_mem _ hx))]
    rfl
theorem runD_same : ∀ (l : List (List UInt8)) (ds : DirL) (u : Nat), (∀ x ∈ l, (idxD ds x).isSome = true) → (runD ds u l).1 = ds
  | [], _, _, _ => rfl
  | p :: l, ds, u, h => by
    have h1 := h p (List.mem_cons_self ..)
    rw [show runD ds u (p :: l) = (match idxD ds p with | some n => runD ds n l | none => runD (ds ++ [(p, u)]) ds.length l) from rfl]
    cases hi : idxD ds p with
    | some n => exact runD_same l ds n (fun x hx => h x (List.mem_cons_of_mem _ hx))
    | none => rw [hi] at h1; cases h1

/-- A path and all that it is in are there. -/
def Fix (ds : DirL) (p : ByteArray) (n : Nat) : Prop := ∃ l, upsL p = some l ∧ (∀ x ∈ l, (idxD ds x).isSome = true) ∧ idxD ds (bs p) = some n
theorem Fix.pre {ds : DirL} {p : ByteArray} {n : Nat} (h : Fix ds p n) (r : DirL) : Fix (ds ++ r) p n := by
  obtain ⟨l, h1, h2, h3⟩ := h
  refine ⟨l, h1, fun x hx => ?_, idxD_pre h3⟩
  have := h2 x hx
  cases hi : idxD ds x with
  | some k => rw [idxD_pre hi]; rfl
  | none => rw [hi] at this; cases this
theorem atAll_ups {p : ByteArray} {r : List UInt8} (h : bs p = 47 :: r) : atAll [] (splitC 47 r) = bs p := by
  rw [atAll_split, h]
  rfl
/-- Dir that does. -/
theorem dir_ok {ds : DirL} (hok : DirsOK ds) (hl : ds.length ≤ 2000) {p : ByteArray} (he : dirErr ds p = 0) : ∃ r, DirsOK (dirRun ds p).1 ∧ (dirRun ds p).1 = ds ++ r ∧ (dirRun ds p).1.length ≤ 2000 ∧ Fix (dirRun ds p).1 p (dirRun ds p).2 := by
  unfold dirRun
  rw [if_pos he]
  unfold dirErr at he
  cases hu : upsL p with
  | none => rw [hu] at he; cases he
  | some l =>
    rw [hu] at he
    simp only at he
    have hlen : ds.length + l.length - knownD ds l ≤ 2000 := by
      by_cases h : 2000 < ds.length + l.length - knownD ds l
      · rw [if_pos h] at he; cases he
      · omega
    have hk := runD_known l ds 0
    simp only [Option.getD_some]
    rcases upsL_some hu with ⟨h1, rfl⟩ | ⟨r, h1, h2, rfl, h3, h4⟩
    · exact ⟨[], hok, (List.append_nil _).symm, hl, [], hu, fun x h => (by cases h), by
        show idxD ds (bs p) = some 0
        rw [h1]
        exact hok.one 0 _ hok.root⟩
    · have hne : splitC 47 r ≠ [] := splitC_ne 47 r
      have hrun := runD_ok (splitC 47 r) ds 0 ([47], 0) hok hok.root h4
      rw [show noRoot (([47], 0) : List UInt8 × Nat).1 = [] from rfl, if_neg hne, atAll_ups h1] at hrun
      obtain ⟨s, i1, i2, ⟨d, i3, i4⟩, i5⟩ := hrun
      refine ⟨s, i1, i2, by omega, _, hu, i5, ?_⟩
      rw [← i4]
      exact i1.one _ _ i3
theorem runD_last : ∀ (l : List (List UInt8)) (ds : DirL) (u : Nat) (x : List UInt8) (n : Nat), (∀ y ∈ l, (idxD ds y).isSome = true) → l.getLast? = some x → idxD ds x = some n → (runD ds u l).2 = n
  | [], _, _, _, _, _, h, _ => by cases h
  | p :: l, ds, u, x, n, h, hlast, hx => by
    have h1 := h p (List.mem_cons_self ..)
    rw [show runD ds u (p :: l) = (match idxD ds p with | some n => runD ds n l | none => runD (ds ++ [(p, u)]) ds.length l) from rfl]
    cases hi : idxD ds p with
    | none => rw [hi] at h1; cases h1
    | some k =>
      cases l with
      | nil =>
        simp at hlast
        subst hlast
        rw [hi] at hx
        exact Option.some.inj hx
      | cons y l =>
        exact runD_last (y :: l) ds k x n (fun z hz => h z (List.mem_cons_of_mem _ hz)) (by simpa using hlast) hx
theorem ups_last : ∀ (qs : List (List UInt8)) (a : List UInt8), qs ≠ [] → (upsFrom a qs).getLast? = some (atAll a qs)
  | [], _, h => absurd rfl h
  | [q], a, _ => rfl
  | q :: q2 :: qs, a, _ => by
    have ih := ups_last (q2 :: qs) (a ++ 47 :: q) (by simp)
    show ((a ++ 47 :: q) :: upsFrom (a ++ 47 :: q) (q2 :: qs)).getLast? = _
    have hne : upsFrom (a ++ 47 :: q) (q2 :: qs) ≠ [] := by
      show (_ :: _) ≠ []
      simp
    cases hu : upsFrom (a ++ 47 :: q) (q2 :: qs) with
    | nil => exact absurd hu hne
    | cons z l =>
      rw [hu] at ih
      rw [List.getLast?_cons_cons]
      exact ih
/-- Dir once more. -/
theorem dir_again {ds : DirL} (hl : ds.length ≤ 2000) (hok : DirsOK ds) {p : ByteArray} {n : Nat} (h : Fix ds p n) : dirErr ds p = 0 ∧ dirRun ds p = (ds, n) := by
  obtain ⟨l, h1, h2, h3⟩ := h
  have hk := known_full ds l h2
  have he : dirErr ds p = 0 := by
    unfold dirErr
    rw [h1]
    exact if_neg (by omega)
  refine ⟨he, ?_⟩
  unfold dirRun
  rw [if_pos he, h1]
  simp only [Option.getD_some]
  refine Prod.ext (runD_same l ds 0 h2) ?_
  rcases upsL_some h1 with ⟨e1, rfl⟩ | ⟨r, e1, _, rfl, _, h4⟩
  · show 0 = n
    rw [e1, hok.one 0 _ hok.root] at h3
    exact Option.some.inj h3
  · exact runD_last _ ds 0 (bs p) n h2 (by rw [ups_last _ _ (splitC_ne 47 r), atAll_ups e1]) h3
theorem Fix.at_ {ds : DirL} {p : ByteArray} {n : Nat} (h : Fix ds p n) : ∃ u, ds[n]? = some (bs p, u) := by
  obtain ⟨l, _, _, h3⟩ := h
  obtain ⟨d, h4, h5⟩ := idxD_at h3
  exact ⟨d.2, by rw [h4, ← h5]⟩
theorem dirs_short {ds : DirL} (h : DirsOK ds) {n : Nat} {d : List UInt8 × Nat} (hd : ds[n]? = some d) : True := trivial
end Go.Proofs.YtnplmembdfklcaaGreatDoor
