/-
  What a version is, in plain words: its parts, and how two compare. No program in sight; no conditions beyond those typed.
-/
namespace Go.Proofs.YtjcefgjgjhdbpaaGreatDoor
set_option linter.unusedVariables false
set_option linter.unusedSimpArgs false

/-! ### bytes -/
def dig (c : UInt8) : Bool := decide (48 ≤ c.toNat) && decide (c.toNat ≤ 57)
def lett (c : UInt8) : Bool := (decide (97 ≤ c.toNat) && decide (c.toNat ≤ 122)) || (decide (65 ≤ c.toNat) && decide (c.toNat ≤ 90))
/-- the bytes of '._+~^-:' -/
def signs7 : List UInt8 := [46, 95, 43, 126, 94, 45, 58]
def may (c : UInt8) : Bool := dig c || lett c || signs7.contains c

def cnt (p : UInt8 → Bool) (l : List UInt8) : Nat := (l.takeWhile p).length
theorem cnt_le (p : UInt8 → Bool) (l : List UInt8) : cnt p l ≤ l.length := by
  unfold cnt
  exact (List.takeWhile_sublist p).length_le
theorem cnt_all (p : UInt8 → Bool) (l : List UInt8) : cnt p l = l.length ↔ l.all p = true := by
  induction l with
  | nil => simp [cnt]
  | cons x l ih =>
    unfold cnt at ih ⊢
    by_cases h : p x = true
    · simp [List.takeWhile_cons, h, ih]
    · simp [List.takeWhile_cons, h]
/-- cnt is n: n bytes of the kind, then none. -/
theorem cnt_of {p : UInt8 → Bool} : ∀ {l : List UInt8} {n : Nat}, n ≤ l.length → (∀ j (hj : j < l.length), j < n → p l[j] = true) → (∀ h : n < l.length, p l[n] = false) → cnt p l = n
  | [], n, hn, _, _ => by simp at hn; subst hn; rfl
  | x :: l, 0, _, _, h => by
    have := h (by simp)
    simp at this
    simp [cnt, List.takeWhile_cons, this]
  | x :: l, n + 1, hn, hp, h => by
    have h0 : p x = true := hp 0 (by simp) (by omega)
    have := cnt_of (p := p) (l := l) (n := n) (by simpa using hn) (fun j hj hjn => hp (j + 1) (by simp; omega) (by omega)) (fun hl => h (by simp; omega))
    unfold cnt at this ⊢
    simp [List.takeWhile_cons, h0, this]

/-! ### places -/
/-- the first place of a byte -/
def fi (c : UInt8) : List UInt8 → Option Nat
  | [] => none
  | x :: l => if x = c then some 0 else (fi c l).map (· + 1)
/-- the last place of a byte -/
def li (c : UInt8) : List UInt8 → Option Nat
  | [] => none
  | x :: l => match li c l with
    | some i => some (i + 1)
    | none => if x = c then some 0 else none

theorem fi_none {c : UInt8} : ∀ {l : List UInt8}, fi c l = none ↔ c ∉ l
  | [] => by simp [fi]
  | x :: l => by
    unfold fi
    by_cases h : x = c
    · subst h; simp
    · rw [if_neg h]
      simp only [Option.map_eq_none_iff, List.mem_cons, not_or]
      rw [fi_none]
      exact ⟨fun hn => ⟨fun e => h e.symm, hn⟩, fun hn => hn.2⟩
theorem fi_some {c : UInt8} : ∀ {l : List UInt8} {i : Nat}, fi c l = some i ↔ ∃ h : i < l.length, l[i] = c ∧ ∀ j (hj : j < l.length), j < i → l[j] ≠ c
  | [], i => by simp [fi]
  | x :: l, i => by
    unfold fi
    by_cases h : x = c
    · subst h
      rw [if_pos rfl]
      constructor
      · intro e
        cases e
        exact ⟨by simp, rfl, fun j hj hji => absurd hji (by omega)⟩
      · rintro ⟨hl, he, hn⟩
        cases i with
        | zero => rfl
        | succ i => exact absurd rfl (hn 0 (by simp) (by omega))
    · rw [if_neg h]
      cases i with
      | zero =>
        constructor
        · intro e
          simp [Option.map_eq_some_iff] at e
        · rintro ⟨_, he, _⟩
          exact absurd he h
      | succ i =>
        simp only [Option.map_eq_some_iff, Nat.add_right_cancel_iff, exists_eq_right]
        rw [fi_some]
        constructor
        · rintro ⟨hl, he, hn⟩
          refine ⟨by simp; omega, he, fun j hj hji => ?_⟩
          cases j with
          | zero => exact h
          | succ j => exact hn j (by simpa using hj) (by omega)
        · rintro ⟨hl, he, hn⟩
          exact ⟨by simpa using hl, he, fun j hj hji => hn (j + 1) (by simp; omega) (by omega)⟩
theorem li_none {c : UInt8} : ∀ {l : List UInt8}, li c l = none ↔ c ∉ l
  | [] => by simp [li]
  | x :: l => by
    unfold li
    cases h : li c l with
    | some i =>
      have : ¬ c ∉ l := fun hn => by rw [li_none.2 hn] at h; cases h
      simp only [reduceCtorEq, false_iff, List.mem_cons, not_or, not_and]
      intro _
      exact this
    | none =>
      have hn := li_none.1 h
      by_cases hx : x = c
      · subst hx; simp
      · simp only [if_neg hx, true_iff, List.mem_cons, not_or]
        exact ⟨fun e => hx e.symm, hn⟩
theorem li_some {c : UInt8} : ∀ {l : List UInt8} {i : Nat}, li c l = some i ↔ ∃ h : i < l.length, l[i] = c ∧ ∀ j (hj : j < l.length), i < j → l[j] ≠ c
  | [], i => by simp [li]
  | x :: l, i => by
    unfold li
    cases h : li c l with
    | some k =>
      obtain ⟨hk, he, hn⟩ := li_some.1 h
      simp only [Option.some.injEq]
      constructor
      · rintro rfl
        refine ⟨by simp; omega, he, fun j hj hji => ?_⟩
        cases j with
        | zero => omega
        | succ j => exact hn j (by simpa using hj) (by omega)
      · rintro ⟨hl, he', hn'⟩
        cases i with
        | zero => exact absurd he (hn' (k + 1) (by simp; omega) (by omega))
        | succ i =>
          have hl' : i < l.length := by simpa using hl
          rcases Nat.lt_trichotomy k i with h1 | h1 | h1
          · exact absurd he' (hn i hl' h1)
          · rw [h1]
          · exact absurd he (hn' (k + 1) (by simp; omega) (by omega))
    | none =>
      have hn := li_none.1 h
      by_cases hx : x = c
      · subst hx
        simp only [if_true, Option.some.injEq]
        constructor
        · rintro rfl
          refine ⟨by simp, rfl, fun j hj hji e => ?_⟩
          cases j with
          | zero => omega
          | succ j =>
            have hj' : j < l.length := by simpa using hj
            have : l[j] = x := e
            exact hn (this ▸ List.getElem_mem hj')
        · rintro ⟨hl, he, hn'⟩
          cases i with
          | zero => rfl
          | succ i =>
            have hl' : i < l.length := by simpa using hl
            have : l[i] = x := he
            exact absurd (this ▸ List.getElem_mem hl') hn
      · rw [if_neg hx]
        constructor
        · intro e; cases e
        · rintro ⟨hl, he, _⟩
          cases i with
          | zero => exact absurd he hx
          | succ i =>
            have hl' : i < l.length := by simpa using hl
            have : l[i] = c := he
            exact absurd (this ▸ List.getElem_mem hl') hn

/-! ### the parts of a version -/
abbrev Parts := List UInt8 × List UInt8 × List UInt8

/-- behind the epoch -/
def parse2 (e r : List UInt8) : Option Parts :=
  match li 45 r with
  | some j => if r.drop (j + 1) = [] then none else if r.take j = [] ∨ 58 ∈ r then none else some (e, r.take j, r.drop (j + 1))
  | none => if r = [] ∨ 58 ∈ r then none else some (e, r, [])

def okText (l : List UInt8) : Bool := !l.isEmpty && decide (l.length ≤ 60) && l.all may
def okEpoch (e : List UInt8) : Bool := !e.isEmpty && decide (e.length ≤ 9) && e.all dig

def parse (l : List UInt8) : Option Parts :=
  if okText l = false then none
  else match fi 58 l with
    | some i => if okEpoch (l.take i) = false then none else parse2 (l.take i) (l.drop (i + 1))
    | none => parse2 [] l

/-! ### how texts compare -/
def sgn (n : Int) : Int := if n < 0 then -1 else if 0 < n then 1 else 0
/-- byte by byte -/
def cmpB : List UInt8 → List UInt8 → Int
  | [], [] => 0
  | [], _ :: _ => -1
  | _ :: _, [] => 1
  | a :: as, b :: bs => if a < b then -1 else if b < a then 1 else cmpB as bs
def strip (l : List UInt8) : List UInt8 := l.dropWhile (· == 48)
/-- texts of digits, as numbers -/
def cmpN (a b : List UInt8) : Int := if (strip a).length ≠ (strip b).length then sgn ((strip a).length - (strip b).length : Int) else cmpB (strip a) (strip b)

def odd (c : UInt8) : Bool := !(dig c || lett c || c == 126 || c == 94)
def skip (l : List UInt8) : List UInt8 := l.dropWhile odd
theorem skip_le (l : List UInt8) : (skip l).length ≤ l.length := (List.dropWhile_sublist odd).length_le
theorem drop_cnt (p : UInt8 → Bool) (l : List UInt8) : l.drop (cnt p l) = l.dropWhile p := by
  induction l with
  | nil => rfl
  | cons x l ih =>
    unfold cnt at ih ⊢
    by_cases h : p x = true
    · simp [List.takeWhile_cons, List.dropWhile_cons, h, ih]
    · simp [List.takeWhile_cons, List.dropWhile_cons, h]
theorem take_cnt (p : UInt8 → Bool) (l : List UInt8) : l.take (cnt p l) = l.takeWhile p := by
  induction l with
  | nil => rfl
  | cons x l ih =>
    unfold cnt at ih ⊢
    by_cases h : p x = true
    · simp [List.takeWhile_cons, h, ih]
    · simp [List.takeWhile_cons, h]
theorem cnt_pos {p : UInt8 → Bool} {x : UInt8} {l : List UInt8} (h : p x = true) : 1 ≤ cnt p (x :: l) := by
  simp [cnt, List.takeWhile_cons, h]
theorem cnt_zero {p : UInt8 → Bool} {x : UInt8} {l : List UInt8} (h : p x = false) : cnt p (x :: l) = 0 := by
  simp [cnt, List.takeWhile_cons, h]

/-- What rpm does, from where nothing stands that does not matter. -/
def rpmT (a b : List UInt8) : Int :=
  match ha : skip a, hb : skip b with
  | [], [] => 0
  | [], y :: bs => if y = 126 then 1 else -1
  | x :: as, [] => if x = 126 then -1 else 1
  | x :: as, y :: bs =>
    if x = 126 ∧ y = 126 then rpmT as bs
    else if x = 126 then -1 else if y = 126 then 1
    else if x = 94 ∧ y = 94 then rpmT as bs
    else if x = 94 then -1 else if y = 94 then 1
    else if dig x = true then
      if cnt dig (y :: bs) = 0 then 1
      else if cmpN ((x :: as).take (cnt dig (x :: as))) ((y :: bs).take (cnt dig (y :: bs))) ≠ 0 then cmpN ((x :: as).take (cnt dig (x :: as))) ((y :: bs).take (cnt dig (y :: bs)))
      else rpmT ((x :: as).drop (cnt dig (x :: as))) ((y :: bs).drop (cnt dig (y :: bs)))
    else
      if cnt lett (y :: bs) = 0 then -1
      else if cmpB ((x :: as).take (cnt lett (x :: as))) ((y :: bs).take (cnt lett (y :: bs))) ≠ 0 then cmpB ((x :: as).take (cnt lett (x :: as))) ((y :: bs).take (cnt lett (y :: bs)))
      else rpmT ((x :: as).drop (cnt lett (x :: as))) ((y :: bs).drop (cnt lett (y :: bs)))
  termination_by a.length + b.length
  decreasing_by
    all_goals
      have h1 := skip_le a
      have h2 := skip_le b
      rw [ha] at h1
      rw [hb] at h2
      simp only [List.length_cons] at h1 h2
      try simp only [List.length_drop, List.length_cons]
      have c1 := cnt_le dig (x :: as)
      have c2 := cnt_le lett (x :: as)
      omega

def weight : List UInt8 → Int
  | [] => 0
  | c :: _ => if dig c then 0 else if c = 126 then -1 else if lett c then c.toNat else 256 + c.toNat

theorem weight_ne {a : List UInt8} (h : weight a ≠ 0) : a ≠ [] := by
  rintro rfl
  exact h rfl

/-- What Debian does. -/
def debT (a b : List UInt8) : Int :=
  if h : weight a ≠ 0 ∨ weight b ≠ 0 then
    if h2 : weight a ≠ weight b then sgn (weight a - weight b) else debT a.tail b.tail
  else
    if cmpN (a.take (cnt dig a)) (b.take (cnt dig b)) ≠ 0 then cmpN (a.take (cnt dig a)) (b.take (cnt dig b))
    else if h3 : a.drop (cnt dig a) = [] ∧ b.drop (cnt dig b) = [] then 0
    else debT (a.drop (cnt dig a)) (b.drop (cnt dig b))
  termination_by a.length + b.length
  decreasing_by
    · simp only [ne_eq, Decidable.not_not] at h2
      have ha : a ≠ [] := weight_ne (by rcases h with h | h; exact h; rw [h2]; exact h)
      have : 0 < a.length := List.length_pos_iff.2 ha
      simp only [List.length_tail]
      omega
    · simp only [ne_eq, not_or, Decidable.not_not] at h
      have key : ∀ l : List UInt8, weight l = 0 → l.drop (cnt dig l) ≠ [] → 1 ≤ cnt dig l := by
        intro l hw hd
        cases l with
        | nil => simp at hd
        | cons c l =>
          by_cases hc : dig c = true
          · exact cnt_pos hc
          · exfalso
            simp only [weight] at hw
            rw [if_neg hc] at hw
            split at hw
            · omega
            · split at hw
              · rename_i h5
                unfold lett at h5
                simp at h5
                omega
              · omega
      have l1 := cnt_le dig a
      have l2 := cnt_le dig b
      simp only [List.length_drop]
      by_cases ha : a.drop (cnt dig a) = []
      · have hb : b.drop (cnt dig b) ≠ [] := fun e => h3 ⟨ha, e⟩
        have := key b h.2 hb
        omega
      · have := key a h.1 ha
        omega

/-! ### how versions compare -/
def or0 (l : List UInt8) : List UInt8 := if l = [] then [48] else l
/-- epochs and versions; releases; kind: 1 is rpm's, 2 Debian's -/
def partsC (kind : Int) (x y : Parts) : Int × Int :=
  let c := cmpN x.1 y.1
  if kind = 2 then (if c ≠ 0 then c else debT x.2.1 y.2.1, debT (or0 x.2.2) (or0 y.2.2))
  else (if c ≠ 0 then c else rpmT x.2.1 y.2.1,
    if x.2.2 = [] ∨ y.2.2 = [] then (if x.2.2 = [] then (if y.2.2 = [] then 0 else -1) else 1) else rpmT x.2.2 y.2.2)

/-- Compare: the answer and the error's number. -/
def compareE (kind : Int) (a b : List UInt8) : Int × Int :=
  if kind ≠ 1 ∧ kind ≠ 2 then (0, 1)
  else match parse a, parse b with
    | some x, some y => (if (partsC kind x y).1 ≠ 0 then (partsC kind x y).1 else (partsC kind x y).2, 0)
    | _, _ => (0, 30)

/-- Two comparisons, by how the versions stand. -/
def meetsC (op other c : Int) : Bool :=
  if c < 0 then decide (op / 4 % 2 = 1) || decide (other % 2 = 1)
  else if 0 < c then decide (op % 2 = 1) || decide (other / 4 % 2 = 1)
  else (decide (op / 2 % 2 = 1) && decide (other / 2 % 2 = 1)) || (decide (op % 2 = 1) && decide (other % 2 = 1)) || (decide (op / 4 % 2 = 1) && decide (other / 4 % 2 = 1))

def meetsE (kind op : Int) (a : List UInt8) (other : Int) (b : List UInt8) : Bool × Int :=
  if (kind ≠ 1 ∧ kind ≠ 2) ∨ op < 0 ∨ 7 < op ∨ other < 0 ∨ 7 < other then (false, 1)
  else if op = 0 ∨ other = 0 then (true, 0)
  else match parse a, parse b with
    | some x, some y => (meetsC op other (if (partsC kind x y).1 = 0 ∧ x.2.2 ≠ [] ∧ y.2.2 ≠ [] then (partsC kind x y).2 else (partsC kind x y).1), 0)
    | _, _ => (false, 30)
end Go.Proofs.YtjcefgjgjhdbpaaGreatDoor
