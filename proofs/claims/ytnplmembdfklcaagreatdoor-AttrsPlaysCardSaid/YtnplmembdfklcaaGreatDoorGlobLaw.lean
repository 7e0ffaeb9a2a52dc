/-
  What fits a glob: plain laws. No program in sight; no conditions beyond those typed.
-/
namespace Go.Proofs.YtnplmembdfklcaaGreatDoor
set_option linter.unusedVariables false
set_option linter.unusedSimpArgs false

/-- A text fits a glob: 42 is '*', 63 is '?'. -/
def G : List UInt8 → List UInt8 → Bool
  | [], s => s.isEmpty
  | c :: p, s => if c = 42 then (List.range (s.length + 1)).any (fun k => G p (s.drop k)) else match s with | [] => false | x :: t => (c == 63 || c == x) && G p t

theorem G_nil {s : List UInt8} : G [] s = true ↔ s = [] := by
  unfold G
  exact List.isEmpty_iff
theorem G_cons (c : UInt8) (p s : List UInt8) : G (c :: p) s = if c = 42 then (List.range (s.length + 1)).any (fun k => G p (s.drop k)) else match s with | [] => false | x :: t => (c == 63 || c == x) && G p t := by
  cases s <;> rfl
theorem G_star {p s : List UInt8} : G (42 :: p) s = true ↔ ∃ k, k ≤ s.length ∧ G p (s.drop k) = true := by
  rw [G_cons, if_pos rfl, List.any_eq_true]
  constructor
  · rintro ⟨k, hk, h⟩
    rw [List.mem_range] at hk
    exact ⟨k, by omega, h⟩
  · rintro ⟨k, hk, h⟩
    exact ⟨k, by rw [List.mem_range]; omega, h⟩
theorem G_star' {p s : List UInt8} : G (42 :: p) s = true ↔ ∃ a b, s = a ++ b ∧ G p b = true := by
  rw [G_star]
  constructor
  · rintro ⟨k, _, h⟩
    exact ⟨s.take k, s.drop k, (List.take_append_drop k s).symm, h⟩
  · rintro ⟨a, b, rfl, h⟩
    exact ⟨a.length, by simp, by simpa using h⟩
theorem G_lit0 {c : UInt8} {p : List UInt8} (h : c ≠ 42) : G (c :: p) [] = false := by
  rw [G_cons, if_neg h]
theorem G_lit {c x : UInt8} {p t : List UInt8} (h : c ≠ 42) : G (c :: p) (x :: t) = ((c == 63 || c == x) && G p t) := by
  rw [G_cons, if_neg h]

/-- A part without stars fits a text byte by byte. -/
def M : List UInt8 → List UInt8 → Bool
  | [], [] => true
  | c :: m, x :: t => c != 42 && (c == 63 || c == x) && M m t
  | _, _ => false
theorem M_length : ∀ {m t : List UInt8}, M m t = true → m.length = t.length
  | [], [], _ => rfl
  | [], _ :: _, h => by cases h
  | _ :: _, [], h => by cases h
  | c :: m, x :: t, h => by
    simp only [M, Bool.and_eq_true] at h
    simp [M_length h.2]
theorem M_G : ∀ {m t : List UInt8} (q u : List UInt8), M m t = true → G (m ++ q) (t ++ u) = G q u
  | [], [], _, _, _ => rfl
  | [], _ :: _, _, _, h => by cases h
  | _ :: _, [], _, _, h => by cases h
  | c :: m, x :: t, q, u, h => by
    simp only [M, Bool.and_eq_true, bne_iff_ne, ne_eq] at h
    rw [List.cons_append, List.cons_append, G_lit h.1.1, h.1.2, Bool.true_and, M_G q u h.2]
theorem M_snoc : ∀ {m t : List UInt8} {c x : UInt8}, M m t = true → c ≠ 42 → (c == 63 || c == x) = true → M (m ++ [c]) (t ++ [x]) = true
  | [], [], c, x, _, h1, h2 => by simp [M, h1]; simpa using h2
  | [], _ :: _, _, _, h, _, _ => by cases h
  | _ :: _, [], _, _, h, _, _ => by cases h
  | a :: m, b :: t, c, x, h, h1, h2 => by
    simp only [M, Bool.and_eq_true] at h
    simp only [List.cons_append, M, Bool.and_eq_true]
    exact ⟨h.1, M_snoc h.2 h1 h2⟩
/-- a part without stars at the head takes as many bytes as it has -/
theorem M_split : ∀ {m t : List UInt8} (q v : List UInt8), M m t = true → G (m ++ q) v = true → ∃ a b, v = a ++ b ∧ a.length = m.length ∧ G q b = true
  | [], [], q, v, _, h => ⟨[], v, rfl, rfl, h⟩
  | [], _ :: _, _, _, h, _ => by cases h
  | _ :: _, [], _, _, h, _ => by cases h
  | c :: m, x :: t, q, v, h, hg => by
    simp only [M, Bool.and_eq_true, bne_iff_ne, ne_eq] at h
    cases v with
    | nil => rw [List.cons_append, G_lit0 h.1.1] at hg; cases hg
    | cons y v =>
      rw [List.cons_append, G_lit h.1.1, Bool.and_eq_true] at hg
      obtain ⟨a, b, rfl, hl, hb⟩ := M_split q v h.2 hg.2
      exact ⟨y :: a, b, rfl, by simp [hl], hb⟩

/-- A second star behind a part that fits as early as it can: the first one is done with. -/
theorem star_star {m t q u : List UInt8} (h : M m t = true) : G (42 :: (m ++ 42 :: q)) (t ++ u) = G (42 :: q) u := by
  rw [Bool.eq_iff_iff]
  constructor
  · intro hg
    obtain ⟨a, b, hab, hb⟩ := G_star'.1 hg
    obtain ⟨c, d, rfl, hl, hd⟩ := M_split (42 :: q) b h hb
    obtain ⟨e, f, rfl, hf⟩ := G_star'.1 hd
    -- t ++ u = a ++ (c ++ (e ++ f)), |c| = |m| = |t|
    have hml := M_length h
    have hu : u = ((a ++ c).drop t.length) ++ (e ++ f) := by
      have h1 := congrArg (List.drop t.length) hab
      rw [List.drop_left] at h1
      rw [h1, ← List.append_assoc, List.drop_append_of_le_length (by simp; omega)]
    rw [hu, ← List.append_assoc]
    exact G_star'.2 ⟨_, f, rfl, hf⟩
  · intro hg
    refine G_star'.2 ⟨[], t ++ u, rfl, ?_⟩
    rw [M_G _ _ h]
    exact hg
/-- The end: the part behind the last star has fitted the text's end. -/
theorem star_end {m t r : List UInt8} (h : M m t = true) : G (42 :: (m ++ r)) t = G r [] := by
  rw [Bool.eq_iff_iff]
  constructor
  · intro hg
    obtain ⟨a, b, hab, hb⟩ := G_star'.1 hg
    obtain ⟨c, d, rfl, hl, hd⟩ := M_split r b h hb
    have hml := M_length h
    have : a = [] ∧ d = [] := by
      have := congrArg List.length hab
      simp only [List.length_append] at this
      exact ⟨List.eq_nil_of_length_eq_zero (by omega), List.eq_nil_of_length_eq_zero (by omega)⟩
    rw [this.2] at hd
    exact hd
  · intro hg
    refine G_star'.2 ⟨[], t, rfl, ?_⟩
    have := M_G r [] h
    rw [List.append_nil] at this
    rw [this]
    exact hg
/-- A trial that fails: the star takes one byte more. -/
theorem star_next {r v : List UInt8} {x : UInt8} (h : G r (x :: v) = false) : G (42 :: r) (x :: v) = G (42 :: r) v := by
  rw [Bool.eq_iff_iff]
  constructor
  · intro hg
    obtain ⟨a, b, hab, hb⟩ := G_star'.1 hg
    cases a with
    | nil => rw [List.nil_append] at hab; rw [← hab, h] at hb; cases hb
    | cons y a =>
      rw [List.cons_append] at hab
      injection hab with _ h2
      exact G_star'.2 ⟨a, b, h2, hb⟩
  · intro hg
    obtain ⟨a, b, hab, hb⟩ := G_star'.1 hg
    exact G_star'.2 ⟨x :: a, b, by rw [hab]; rfl, hb⟩
theorem G_end : ∀ {r : List UInt8}, G r [] = r.all (· == 42)
  | [] => rfl
  | c :: r => by
    by_cases h : c = 42
    · subst h
      rw [Bool.eq_iff_iff, G_star']
      simp only [List.all_cons, beq_self_eq_true, Bool.true_and]
      rw [← G_end (r := r)]
      constructor
      · rintro ⟨a, b, hab, hb⟩
        have : b = [] := by
          have := congrArg List.length hab
          simp only [List.length_nil, List.length_append] at this
          exact List.eq_nil_of_length_eq_zero (by omega)
        rw [this] at hb
        exact hb
      · intro hb
        exact ⟨[], [], rfl, hb⟩
    · rw [G_lit0 h]
      simp [h]

/-! ### the walk's state -/
/-- What holds at the loop's head: star -1 or where it stands; back; i; k. -/
def GInv (p s : List UInt8) (star : Int) (back i k : Nat) : Prop :=
  i ≤ p.length ∧ k ≤ s.length ∧ back ≤ k ∧
  ((star = -1 ∧ back = 0 ∧ G p s = G (p.drop i) (s.drop k)) ∨
   (∃ (st : Nat) (m t : List UInt8), star = st ∧ st < i ∧ p.drop (st + 1) = m ++ p.drop i ∧ m.length = i - (st + 1) ∧ s.drop back = t ++ s.drop k ∧ t.length = k - back ∧ M m t = true ∧ G p s = G (42 :: (m ++ p.drop i)) (t ++ s.drop k)))

theorem GInv.start (p s : List UInt8) : GInv p s (-1) 0 0 0 := ⟨Nat.zero_le _, Nat.zero_le _, Nat.le_refl _, .inl ⟨rfl, rfl, rfl⟩⟩
theorem drop_cons {l : List UInt8} {i : Nat} (h : i < l.length) : l.drop i = l[i] :: l.drop (i + 1) := List.drop_eq_getElem_cons h
theorem GInv.star {p s : List UInt8} {star : Int} {back i k : Nat} (h : GInv p s star back i k) (hi : i < p.length) (hc : p[i] = 42) : GInv p s i k (i + 1) k := by
  obtain ⟨h1, h2, h3, h4⟩ := h
  refine ⟨hi, h2, Nat.le_refl _, .inr ⟨i, [], [], rfl, by omega, by simp, by simp, by simp, by simp, rfl, ?_⟩⟩
  rw [List.nil_append, List.nil_append]
  rcases h4 with ⟨_, _, he⟩ | ⟨st, m, t, _, _, _, _, _, _, hm, he⟩
  · rw [he, drop_cons hi, hc]
  · rw [he, drop_cons hi, hc, star_star hm]
theorem GInv.fit {p s : List UInt8} {star : Int} {back i k : Nat} (h : GInv p s star back i k) (hi : i < p.length) (hk : k < s.length) (hc : p[i] ≠ 42) (hx : (p[i] == 63 || p[i] == s[k]) = true) : GInv p s star back (i + 1) (k + 1) := by
  obtain ⟨h1, h2, h3, h4⟩ := h
  refine ⟨hi, hk, by omega, ?_⟩
  rcases h4 with ⟨e1, e2, he⟩ | ⟨st, m, t, e1, e2, e3, e4, e5, e6, hm, he⟩
  · refine .inl ⟨e1, e2, ?_⟩
    rw [he, drop_cons hi, drop_cons hk, G_lit hc, hx, Bool.true_and]
  · refine .inr ⟨st, m ++ [p[i]], t ++ [s[k]], e1, by omega, ?_, by simp; omega, ?_, by simp; omega, M_snoc hm hc hx, ?_⟩
    · rw [e3, drop_cons hi]; simp
    · rw [e5, drop_cons hk]; simp
    · rw [he, drop_cons hi, drop_cons hk]; simp
/-- The byte does not fit. -/
def misfit (p s : List UInt8) (i k : Nat) : Prop := ∀ (hk : k < s.length) (hi : i < p.length), p[i] ≠ 42 ∧ (p[i] == 63 || p[i] == s[k]) = false
theorem misfit_G {p s : List UInt8} {i k : Nat} (h : misfit p s i k) (hk : k < s.length) (hi : i ≤ p.length) : G (p.drop i) (s.drop k) = false := by
  rw [drop_cons hk]
  rcases Nat.lt_or_ge i p.length with hl | hl
  · obtain ⟨h1, h2⟩ := h hk hl
    rw [drop_cons hl, G_lit h1, h2, Bool.false_and]
  · rw [List.drop_of_length_le hl]
    rfl
theorem GInv.none {p s : List UInt8} {back i k : Nat} (h : GInv p s (-1) back i k) (hk : k < s.length) (hm : misfit p s i k) : G p s = false := by
  obtain ⟨h1, h2, h3, h4⟩ := h
  rcases h4 with ⟨_, _, he⟩ | ⟨st, m, t, e1, _⟩
  · rw [he, misfit_G hm hk h1]
  · omega
theorem GInv.next {p s : List UInt8} {st back i k : Nat} (h : GInv p s st back i k) (hk : k < s.length) (hm : misfit p s i k) : GInv p s st (back + 1) (st + 1) (back + 1) ∧ st < p.length ∧ back < s.length := by
  obtain ⟨h1, h2, h3, h4⟩ := h
  rcases h4 with ⟨e1, _⟩ | ⟨st', m, t, e1, e2, e3, e4, e5, e6, hM, he⟩
  · omega
  · obtain rfl : st' = st := by omega
    refine ⟨⟨by omega, by omega, Nat.le_refl _, .inr ⟨st', [], [], rfl, by omega, by simp, by simp, by simp, by simp, rfl, ?_⟩⟩, by omega, by omega⟩
    rw [List.nil_append, List.nil_append, e3]
    have hb : back < s.length := by omega
    have h5 : t ++ s.drop k = s[back] :: s.drop (back + 1) := by rw [← e5, drop_cons hb]
    rw [he, h5]
    refine star_next ?_
    rw [← h5, M_G _ _ hM]
    exact misfit_G hm hk h1
theorem GInv.fin {p s : List UInt8} {star : Int} {back i : Nat} (h : GInv p s star back i s.length) : G p s = (p.drop i).all (· == 42) := by
  obtain ⟨h1, h2, h3, h4⟩ := h
  rw [← G_end]
  rcases h4 with ⟨_, _, he⟩ | ⟨st, m, t, _, _, _, _, _, _, hm, he⟩
  · rw [he, List.drop_length]
  · rw [he, List.drop_length, List.append_nil, star_end hm]
/-- The measure. -/
def gMu (p s : List UInt8) (back i : Nat) : Nat := (s.length + 1 - back) * (p.length + 1) + (p.length - i)
theorem gMu_i {p s : List UInt8} {back back' i : Nat} (hi : i < p.length) (hb : back ≤ back') : gMu p s back' (i + 1) < gMu p s back i := by
  unfold gMu
  have : (s.length + 1 - back') * (p.length + 1) ≤ (s.length + 1 - back) * (p.length + 1) := Nat.mul_le_mul_right _ (by omega)
  omega
theorem gMu_back {p s : List UInt8} {back i i' : Nat} (hb : back < s.length) : gMu p s (back + 1) i' < gMu p s back i := by
  unfold gMu
  have e : s.length + 1 - back = (s.length + 1 - (back + 1)) + 1 := by omega
  rw [e, Nat.add_mul, Nat.one_mul]
  omega

/-! ### globs put together -/
theorem G_append : ∀ {p q s : List UInt8}, G (p ++ q) s = true ↔ ∃ a b, s = a ++ b ∧ G p a = true ∧ G q b = true
  | [], q, s => by
    rw [List.nil_append]
    constructor
    · intro h; exact ⟨[], s, rfl, rfl, h⟩
    · rintro ⟨a, b, rfl, h1, h2⟩
      rw [G_nil] at h1
      subst h1
      exact h2
  | c :: p, q, s => by
    rw [List.cons_append]
    by_cases hc : c = 42
    · subst hc
      rw [G_star']
      constructor
      · rintro ⟨a, b, rfl, h⟩
        obtain ⟨d, e, rfl, h1, h2⟩ := G_append.1 h
        exact ⟨a ++ d, e, by simp, G_star'.2 ⟨a, d, rfl, h1⟩, h2⟩
      · rintro ⟨a, b, rfl, h1, h2⟩
        obtain ⟨d, e, rfl, h3⟩ := G_star'.1 h1
        exact ⟨d, e ++ b, by simp, G_append.2 ⟨e, b, rfl, h3, h2⟩⟩
    · cases s with
      | nil =>
        rw [G_lit0 hc]
        constructor
        · intro h; cases h
        · rintro ⟨a, b, h, h1, _⟩
          have : a = [] := by cases a; rfl; cases h
          rw [this, G_lit0 hc] at h1
          cases h1
      | cons x s =>
        rw [G_lit hc, Bool.and_eq_true]
        constructor
        · rintro ⟨h0, h⟩
          obtain ⟨a, b, rfl, h1, h2⟩ := G_append.1 h
          exact ⟨x :: a, b, rfl, by rw [G_lit hc, h0, h1]; rfl, h2⟩
        · rintro ⟨a, b, h, h1, h2⟩
          cases a with
          | nil => rw [G_lit0 hc] at h1; cases h1
          | cons y a =>
            rw [List.cons_append] at h
            injection h with e1 e2
            subst e1 e2
            rw [G_lit hc, Bool.and_eq_true] at h1
            exact ⟨h1.1, G_append.2 ⟨a, b, rfl, h1.2, h2⟩⟩
theorem G_self : ∀ {s : List UInt8}, (∀ c ∈ s, c ≠ 42 ∧ c ≠ 63) → G s s = true
  | [], _ => rfl
  | c :: s, h => by
    rw [G_lit (h c (by simp)).1]
    rw [G_self fun d hd => h d (List.mem_cons_of_mem _ hd)]
    simp
theorem G_one_star (s : List UInt8) : G [42] s = true := G_star'.2 ⟨s, [], by simp, rfl⟩

/-! ### the document's rows: which beginnings of the text fit the pattern so far -/
theorem G_snoc_star {q s : List UInt8} {k : Nat} (hk : k < s.length) : G (q ++ [42]) (s.take (k + 1)) = (G q (s.take (k + 1)) || G (q ++ [42]) (s.take k)) := by
  rw [Bool.eq_iff_iff, Bool.or_eq_true]
  constructor
  · intro h
    obtain ⟨a, b, hab, h1, _⟩ := G_append.1 h
    rcases List.eq_nil_or_concat b with rfl | ⟨b', y, rfl⟩
    · rw [List.append_nil] at hab
      rw [hab]
      exact .inl h1
    · right
      have : s.take k = a ++ b' := by
        rw [List.take_succ_eq_append_getElem hk, List.concat_eq_append, ← List.append_assoc] at hab
        exact (List.append_inj' hab rfl).1
      rw [this]
      exact G_append.2 ⟨a, b', rfl, h1, G_one_star _⟩
  · rintro (h | h)
    · exact G_append.2 ⟨_, [], by simp, h, rfl⟩
    · obtain ⟨a, b, hab, h1, _⟩ := G_append.1 h
      rw [List.take_succ_eq_append_getElem hk, hab]
      exact G_append.2 ⟨a, b ++ [s[k]], by simp, h1, G_one_star _⟩
theorem G_snoc_star0 {q s : List UInt8} : G (q ++ [42]) (s.take 0) = G q (s.take 0) := by
  rw [List.take_zero, G_end, G_end]
  simp
theorem G_snoc_lit {q s : List UInt8} {c : UInt8} {k : Nat} (hc : c ≠ 42) (hk : k < s.length) : G (q ++ [c]) (s.take (k + 1)) = (G q (s.take k) && (c == 63 || c == s[k])) := by
  rw [Bool.eq_iff_iff, Bool.and_eq_true]
  constructor
  · intro h
    obtain ⟨a, b, hab, h1, h2⟩ := G_append.1 h
    cases b with
    | nil => rw [G_lit0 hc] at h2; cases h2
    | cons x b =>
      rw [G_lit hc, Bool.and_eq_true] at h2
      have hb : b = [] := G_nil.1 h2.2
      subst hb
      rw [List.take_succ_eq_append_getElem hk] at hab
      have h3 := List.append_inj' hab rfl
      injection h3.2 with e1 _
      rw [h3.1, e1]
      exact ⟨h1, h2.1⟩
  · rintro ⟨h1, h2⟩
    rw [List.take_succ_eq_append_getElem hk]
    exact G_append.2 ⟨_, _, rfl, h1, by rw [G_lit hc, h2]; rfl⟩
theorem G_snoc_lit0 {q s : List UInt8} {c : UInt8} (hc : c ≠ 42) : G (q ++ [c]) (s.take 0) = false := by
  rw [List.take_zero, G_end]
  simp [hc]
end Go.Proofs.YtnplmembdfklcaaGreatDoor
