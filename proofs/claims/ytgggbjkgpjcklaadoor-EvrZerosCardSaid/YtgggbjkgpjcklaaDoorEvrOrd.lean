/-
  How versions compare is an order: by keys. No program in sight; no conditions beyond those typed.
-/
import Derived.Test.YtgggbjkgpjcklaaDoorEvrSpec
namespace Go.Proofs.YtgggbjkgpjcklaaDoor
set_option linter.unusedVariables false
set_option linter.unusedSimpArgs false

/-- A comparison: -1, 0, 1; equal to itself; the other way round the other sign; it goes on through a third one. -/
structure IsCmp {α : Type} (f : α → α → Int) : Prop where
  tri : ∀ a b, f a b = -1 ∨ f a b = 0 ∨ f a b = 1
  refl : ∀ a, f a a = 0
  anti : ∀ a b, f b a = - f a b
  trans : ∀ a b c, f a b ≤ 0 → f b c ≤ 0 → f a c ≤ 0

namespace IsCmp
variable {α β : Type} {f : α → α → Int} {g : β → β → Int}
theorem pre (h : IsCmp f) (k : β → α) : IsCmp fun x y => f (k x) (k y) :=
  ⟨fun _ _ => h.tri _ _, fun _ => h.refl _, fun _ _ => h.anti _ _, fun _ _ _ => h.trans _ _ _⟩
theorem eqL (h : IsCmp f) {a b : α} (e : f a b = 0) (c : α) : f a c = f b c := by
  have e' : f b a = 0 := by rw [h.anti a b, e]; rfl
  have h1 := h.trans a b c (by omega)
  have h2 := h.trans b a c (by omega)
  have h3 := h.trans c a b
  have h4 := h.trans c b a
  have h5 := h.anti a c
  have h6 := h.anti b c
  have t1 := h.tri a c
  have t2 := h.tri b c
  omega
theorem eqR (h : IsCmp f) {b c : α} (e : f b c = 0) (a : α) : f a c = f a b := by
  have e' : f c b = 0 := by rw [h.anti b c, e]; rfl
  rw [h.anti c a, h.anti b a, h.eqL e' a]
theorem ge (h : IsCmp f) {a b c : α} (h1 : 0 ≤ f a b) (h2 : 0 ≤ f b c) : 0 ≤ f a c := by
  have := h.trans c b a (by rw [h.anti b c]; omega) (by rw [h.anti a b]; omega)
  rw [h.anti a c] at this
  omega
theorem prod (h : IsCmp f) (k : IsCmp g) : IsCmp fun (x y : α × β) => if f x.1 y.1 ≠ 0 then f x.1 y.1 else g x.2 y.2 := by
  refine ⟨fun a b => ?_, fun a => ?_, fun a b => ?_, fun a b c => ?_⟩
  · show (if f a.1 b.1 ≠ 0 then f a.1 b.1 else g a.2 b.2) = -1 ∨ (if f a.1 b.1 ≠ 0 then f a.1 b.1 else g a.2 b.2) = 0 ∨ (if f a.1 b.1 ≠ 0 then f a.1 b.1 else g a.2 b.2) = 1
    split
    · exact h.tri _ _
    · exact k.tri _ _
  · show (if f a.1 a.1 ≠ 0 then f a.1 a.1 else g a.2 a.2) = 0
    rw [h.refl, k.refl]
    simp
  · show (if f b.1 a.1 ≠ 0 then f b.1 a.1 else g b.2 a.2) = -(if f a.1 b.1 ≠ 0 then f a.1 b.1 else g a.2 b.2)
    rw [h.anti a.1 b.1, k.anti a.2 b.2]
    by_cases e : f a.1 b.1 = 0
    · simp [e]
    · rw [if_pos (by omega), if_pos e]
  · show (if f a.1 b.1 ≠ 0 then f a.1 b.1 else g a.2 b.2) ≤ 0 → (if f b.1 c.1 ≠ 0 then f b.1 c.1 else g b.2 c.2) ≤ 0 → (if f a.1 c.1 ≠ 0 then f a.1 c.1 else g a.2 c.2) ≤ 0
    intro h1 h2
    by_cases e1 : f a.1 b.1 = 0
    · rw [if_neg (by simpa using e1)] at h1
      rw [h.eqL e1 c.1]
      by_cases e2 : f b.1 c.1 = 0
      · rw [if_neg (by simpa using e2)] at h2 ⊢
        exact k.trans _ _ _ h1 h2
      · rw [if_pos e2] at h2 ⊢
        exact h2
    · rw [if_pos e1] at h1
      by_cases e2 : f b.1 c.1 = 0
      · rw [h.eqR e2 a.1]
        rw [if_pos e1]
        exact h1
      · rw [if_pos e2] at h2
        have h3 := h.trans _ _ _ h1 h2
        have h4 : f a.1 c.1 ≠ 0 := by
          intro e
          have := h.eqL e b.1
          have h5 := h.anti b.1 c.1
          omega
        rw [if_pos h4]
        exact h3
end IsCmp

theorem sgn_cmp : IsCmp fun (x y : Int) => sgn (x - y) := by
  refine ⟨fun a b => ?_, fun a => ?_, fun a b => ?_, fun a b c => ?_⟩
  all_goals simp only [sgn]
  · split
    · simp
    · split <;> simp
  · simp
  · (repeat' split) <;> omega
  · (repeat' split) <;> omega

theorem u8_lt {a b : UInt8} : a < b ↔ a.toNat < b.toNat := UInt8.lt_iff_toNat_lt
theorem u8_ext {a b : UInt8} (h : a.toNat = b.toNat) : a = b := UInt8.toNat_inj.1 h

/-- bytes, one by one -/
theorem cmpB_cmp : IsCmp cmpB := by
  refine ⟨?_, ?_, ?_, ?_⟩
  · intro a
    induction a with
    | nil => intro b; cases b <;> simp [cmpB]
    | cons x a ih =>
      intro b
      cases b with
      | nil => simp [cmpB]
      | cons y b =>
        simp only [cmpB]
        split
        · simp
        · split
          · simp
          · exact ih b
  · intro a
    induction a with
    | nil => rfl
    | cons x a ih => simp [cmpB, ih, u8_lt]
  · intro a
    induction a with
    | nil => intro b; cases b <;> simp [cmpB]
    | cons x a ih =>
      intro b
      cases b with
      | nil => simp [cmpB]
      | cons y b =>
        simp only [cmpB, u8_lt]
        rcases Nat.lt_trichotomy x.toNat y.toNat with h | h | h
        · rw [if_neg (by omega), if_pos h, if_pos h]
          rfl
        · rw [if_neg (by omega), if_neg (by omega), if_neg (by omega), if_neg (by omega)]
          exact ih b
        · rw [if_pos h, if_neg (by omega), if_pos h]
  · intro a
    induction a with
    | nil =>
      intro b c _ _
      cases c <;> simp [cmpB]
    | cons x a ih =>
      intro b c h1 h2
      cases b with
      | nil => simp [cmpB] at h1
      | cons y b =>
        cases c with
        | nil => simp [cmpB] at h2
        | cons z c =>
          simp only [cmpB, u8_lt] at h1 h2 ⊢
          rcases Nat.lt_trichotomy x.toNat y.toNat with e1 | e1 | e1
          · rcases Nat.lt_trichotomy y.toNat z.toNat with e2 | e2 | e2
            · rw [if_pos (by omega)]; decide
            · rw [if_pos (by omega)]; decide
            · rw [if_neg (by omega), if_pos e2] at h2; omega
          · rw [if_neg (by omega), if_neg (by omega)] at h1
            rcases Nat.lt_trichotomy y.toNat z.toNat with e2 | e2 | e2
            · rw [if_pos (by omega)]; decide
            · rw [if_neg (by omega), if_neg (by omega)] at h2
              rw [if_neg (by omega), if_neg (by omega)]
              exact ih b c h1 h2
            · rw [if_neg (by omega), if_pos e2] at h2; omega
          · rw [if_neg (by omega), if_pos e1] at h1; omega

/-! ### keys -/
abbrev Tok := Int × (Int × List UInt8)
def cmpTok (t u : Tok) : Int := if sgn (t.1 - u.1) ≠ 0 then sgn (t.1 - u.1) else if sgn (t.2.1 - u.2.1) ≠ 0 then sgn (t.2.1 - u.2.1) else cmpB t.2.2 u.2.2
theorem cmpTok_cmp : IsCmp cmpTok := sgn_cmp.prod (sgn_cmp.prod cmpB_cmp)

theorem sgn_zero {n : Int} : sgn n = 0 ↔ n = 0 := by
  unfold sgn
  split
  · omega
  · split <;> omega

def numT (l : List UInt8) : Tok := (0, ((strip l).length, strip l))
theorem sgn_self (k : Int) : sgn (k - k) = 0 := by rw [sgn_zero]; omega
theorem cmpN_tok (k : Int) (a b : List UInt8) : cmpTok (k, ((strip a).length, strip a)) (k, ((strip b).length, strip b)) = cmpN a b := by
  show (if sgn (k - k) ≠ 0 then sgn (k - k) else if sgn (((strip a).length : Int) - ((strip b).length : Int)) ≠ 0 then sgn (((strip a).length : Int) - ((strip b).length : Int)) else cmpB (strip a) (strip b)) = cmpN a b
  unfold cmpN
  generalize strip a = x
  generalize strip b = y
  rw [sgn_self, if_neg (by decide)]
  by_cases h : x.length = y.length
  · rw [if_neg (by rw [h, sgn_self]; simp), if_neg (by simpa using h)]
  · rw [if_pos (by rw [Ne, sgn_zero]; omega), if_pos h]

/-- Lists of keys, behind whose ends e stands again and again; the first n are looked at. -/
def cmpPad (e : Tok) : Nat → List Tok → List Tok → Int
  | 0, _, _ => 0
  | n + 1, a, b => if cmpTok (a.headD e) (b.headD e) ≠ 0 then cmpTok (a.headD e) (b.headD e) else cmpPad e n a.tail b.tail

theorem cmpPad_cmp (e : Tok) : ∀ n, IsCmp (cmpPad e n)
  | 0 => ⟨fun _ _ => .inr (.inl rfl), fun _ => rfl, fun _ _ => rfl, fun _ _ _ _ _ => Int.le_refl _⟩
  | n + 1 => by
    have h := (cmpTok_cmp.prod (cmpPad_cmp e n)).pre fun l : List Tok => (l.headD e, l.tail)
    have e1 : cmpPad e (n + 1) = fun x y : List Tok => if cmpTok (x.headD e) (y.headD e) ≠ 0 then cmpTok (x.headD e) (y.headD e) else cmpPad e n x.tail y.tail := by
      funext x y
      simp only [cmpPad]
    rw [e1]
    exact h
theorem cmpPad_nil (e : Tok) : ∀ n, cmpPad e n [] [] = 0
  | 0 => rfl
  | n + 1 => by
    simp only [cmpPad, List.headD_nil, cmpTok_cmp.refl, ne_eq, not_true, if_false, List.tail_nil]
    exact cmpPad_nil e n
theorem cmpPad_more (e : Tok) : ∀ (n m : Nat) (a b : List Tok), a.length ≤ n → b.length ≤ n → n ≤ m → cmpPad e m a b = cmpPad e n a b
  | 0, m, a, b, ha, hb, _ => by
    obtain rfl : a = [] := List.eq_nil_of_length_eq_zero (by omega)
    obtain rfl : b = [] := List.eq_nil_of_length_eq_zero (by omega)
    rw [cmpPad_nil, cmpPad_nil]
  | n + 1, 0, a, b, _, _, h => absurd h (by omega)
  | n + 1, m + 1, a, b, ha, hb, h => by
    simp only [cmpPad]
    rw [cmpPad_more e n m a.tail b.tail (by simp; omega) (by simp; omega) (by omega)]

theorem skip_odd {a : List UInt8} {x : UInt8} {as : List UInt8} (h : skip a = x :: as) : odd x = false := by
  induction a with
  | nil => simp [skip] at h
  | cons y a ih =>
    unfold skip at h ih
    rw [List.dropWhile_cons] at h
    by_cases hy : odd y = true
    · rw [if_pos hy] at h; exact ih h
    · rw [if_neg hy] at h
      cases h
      simpa using hy

/-- rpm's key -/
def rpmK (a : List UInt8) : List Tok :=
  match ha : skip a with
  | [] => []
  | x :: as =>
    if x = 126 then (0, (0, [])) :: rpmK as
    else if x = 94 then (2, (0, [])) :: rpmK as
    else if hx : dig x = true then (4, ((strip ((x :: as).take (cnt dig (x :: as)))).length, strip ((x :: as).take (cnt dig (x :: as))))) :: rpmK ((x :: as).drop (cnt dig (x :: as)))
    else if hl : lett x = true then (3, (0, (x :: as).take (cnt lett (x :: as)))) :: rpmK ((x :: as).drop (cnt lett (x :: as))) else []
  termination_by a.length
  decreasing_by
    all_goals
      have h1 := skip_le a
      rw [ha] at h1
      simp only [List.length_cons] at h1
    · omega
    · omega
    · have := cnt_pos (l := as) hx
      simp only [List.length_drop, List.length_cons]
      omega
    · have := cnt_pos (l := as) hl
      simp only [List.length_drop, List.length_cons]
      omega

/-- what rpm does of two texts that begin with what matters -/
def rpmS : List UInt8 → List UInt8 → Int
  | [], [] => 0
  | [], y :: _ => if y = 126 then 1 else -1
  | x :: _, [] => if x = 126 then -1 else 1
  | x :: as, y :: bs =>
    if x = 126 ∧ y = 126 then rpmT as bs
    else if x = 126 then -1 else if y = 126 then 1
    else if x = 94 ∧ y = 94 then rpmT as bs
    else if x = 94 then -1 else if y = 94 then 1
    else if dig x = true then
      if cnt dig (y :: bs) = 0 then 1
      else if cmpN ((x :: as).take (cnt dig (x :: as))) ((y :: bs).take (cnt dig (y :: bs))) ≠ 0 then cmpN ((x :: as).take (cnt dig (x :: as))) ((y :: bs).take (cnt dig (y :: bs)))
      else rpmT ((x :: as).drop (cnt dig (x :: as))) ((y :: bs).drop (cnt dig (y :: bs)))
    else
      if cnt lett (y :: bs) = 0 then -1
      else if cmpB ((x :: as).take (cnt lett (x :: as))) ((y :: bs).take (cnt lett (y :: bs))) ≠ 0 then cmpB ((x :: as).take (cnt lett (x :: as))) ((y :: bs).take (cnt lett (y :: bs)))
      else rpmT ((x :: as).drop (cnt lett (x :: as))) ((y :: bs).drop (cnt lett (y :: bs)))
theorem rpmT_eq (a b : List UInt8) : rpmT a b = rpmS (skip a) (skip b) := by
  rw [rpmT]
  split
  all_goals
    rename_i h1 h2
    rw [h1, h2]
    rfl
def rpmKS : List UInt8 → List Tok
  | [] => []
  | x :: as =>
    if x = 126 then (0, (0, [])) :: rpmK as
    else if x = 94 then (2, (0, [])) :: rpmK as
    else if dig x = true then (4, ((strip ((x :: as).take (cnt dig (x :: as)))).length, strip ((x :: as).take (cnt dig (x :: as))))) :: rpmK ((x :: as).drop (cnt dig (x :: as)))
    else (3, (0, (x :: as).take (cnt lett (x :: as)))) :: rpmK ((x :: as).drop (cnt lett (x :: as)))
theorem odd_lett {x : UInt8} (ho : odd x = false) (h1 : x ≠ 126) (h2 : x ≠ 94) (h3 : ¬ dig x = true) : lett x = true := by
  unfold odd at ho
  cases hh : lett x with
  | true => rfl
  | false =>
    simp [hh, h3] at ho
    exact absurd (ho h1) h2
theorem rpmK_eq (a : List UInt8) : rpmK a = rpmKS (skip a) := by
  rw [rpmK]
  split
  · rename_i h
    rw [h]
    rfl
  · rename_i x as h
    rw [h]
    have ho := skip_odd h
    simp only [rpmKS, dite_eq_ite]
    by_cases h1 : x = 126
    · rw [if_pos h1, if_pos h1]
    · rw [if_neg h1, if_neg h1]
      by_cases h2 : x = 94
      · rw [if_pos h2, if_pos h2]
      · rw [if_neg h2, if_neg h2]
        by_cases h3 : dig x = true
        · rw [if_pos h3, if_pos h3]
        · rw [if_neg h3, if_neg h3, if_pos (odd_lett ho h1 h2 h3)]

theorem dig_not_lett {x : UInt8} (h : dig x = true) : lett x = false := by
  unfold dig at h
  unfold lett
  simp only [Bool.and_eq_true, decide_eq_true_eq] at h
  simp
  omega
theorem skip_odd' {a : List UInt8} : skip (skip a) = skip a := by
  cases h : skip a with
  | nil => rfl
  | cons x as =>
    have := skip_odd h
    unfold skip
    rw [List.dropWhile_cons, if_neg (by rw [this]; decide)]

theorem tok_lt (t u : Tok) (h : t.1 < u.1) : cmpTok t u = -1 := by
  unfold cmpTok
  have : sgn (t.1 - u.1) = -1 := by unfold sgn; rw [if_pos (by omega)]
  rw [this]
  rfl
theorem tok_gt (t u : Tok) (h : u.1 < t.1) : cmpTok t u = 1 := by
  rw [cmpTok_cmp.anti u t, tok_lt u t h]
  rfl
theorem tok_B (k : Int) (a b : List UInt8) : cmpTok (k, (0, a)) (k, (0, b)) = cmpB a b := by
  unfold cmpTok
  simp [sgn]

def rpmE : Tok := (1, (0, []))
theorem pad_lt {n : Nat} {e t u : Tok} {ts us : List Tok} (h : t.1 < u.1) : cmpPad e (n + 1) (t :: ts) (u :: us) = -1 := by
  simp only [cmpPad, List.headD_cons, tok_lt t u h]
  rfl
theorem pad_gt {n : Nat} {e t u : Tok} {ts us : List Tok} (h : u.1 < t.1) : cmpPad e (n + 1) (t :: ts) (u :: us) = 1 := by
  simp only [cmpPad, List.headD_cons, tok_gt t u h]
  rfl
theorem pad_ltE {n : Nat} {e t : Tok} {ts : List Tok} (h : t.1 < e.1) : cmpPad e (n + 1) (t :: ts) [] = -1 := by
  simp only [cmpPad, List.headD_cons, List.headD_nil, tok_lt t e h]
  rfl
theorem pad_gtE {n : Nat} {e t : Tok} {ts : List Tok} (h : e.1 < t.1) : cmpPad e (n + 1) (t :: ts) [] = 1 := by
  simp only [cmpPad, List.headD_cons, List.headD_nil, tok_gt t e h]
  rfl
theorem pad_Elt {n : Nat} {e t : Tok} {ts : List Tok} (h : e.1 < t.1) : cmpPad e (n + 1) [] (t :: ts) = -1 := by
  simp only [cmpPad, List.headD_cons, List.headD_nil, tok_lt e t h]
  rfl
theorem pad_Egt {n : Nat} {e t : Tok} {ts : List Tok} (h : t.1 < e.1) : cmpPad e (n + 1) [] (t :: ts) = 1 := by
  simp only [cmpPad, List.headD_cons, List.headD_nil, tok_gt e t h]
  rfl
theorem pad_cons {n : Nat} {e t u : Tok} {ts us : List Tok} : cmpPad e (n + 1) (t :: ts) (u :: us) = if cmpTok t u ≠ 0 then cmpTok t u else cmpPad e n ts us := rfl

theorem rpmT_key : ∀ (N : Nat) (a b : List UInt8), a.length + b.length ≤ N → ∀ n, (rpmK a).length ≤ n → (rpmK b).length ≤ n → rpmT a b = cmpPad rpmE n (rpmK a) (rpmK b) := by
  intro N
  induction N using Nat.strongRecOn with
  | _ N ih =>
    intro a b hN n hn1 hn2
    rw [rpmT_eq]
    rw [rpmK_eq] at hn1 hn2 ⊢
    rw [rpmK_eq b]
    have la := skip_le a
    have lb := skip_le b
    have oa := @skip_odd a
    have ob := @skip_odd b
    generalize skip a = a' at *
    generalize skip b = b' at *
    have ih' : ∀ (c d : List UInt8), c.length + d.length < a'.length + b'.length → ∀ n, (rpmK c).length ≤ n → (rpmK d).length ≤ n → rpmT c d = cmpPad rpmE n (rpmK c) (rpmK d) :=
      fun c d h n h1 h2 => ih (c.length + d.length) (by omega) c d (Nat.le_refl _) n h1 h2
    cases a' with
    | nil =>
      cases b' with
      | nil => simp only [rpmS, rpmKS, cmpPad_nil]
      | cons y bs =>
        simp only [rpmS, rpmKS] at hn2 ⊢
        by_cases y1 : y = 126
        · rw [if_pos y1] at hn2 ⊢
          rw [if_pos y1]
          obtain ⟨m, rfl⟩ : ∃ m, n = m + 1 := ⟨n - 1, by simp at hn2; omega⟩
          exact (pad_Egt (by simp [rpmE])).symm
        · rw [if_neg y1] at hn2 ⊢
          rw [if_neg y1]
          by_cases y2 : y = 94
          · rw [if_pos y2] at hn2 ⊢
            obtain ⟨m, rfl⟩ : ∃ m, n = m + 1 := ⟨n - 1, by simp at hn2; omega⟩
            exact (pad_Elt (by simp [rpmE])).symm
          · rw [if_neg y2] at hn2 ⊢
            by_cases y3 : dig y = true
            · rw [if_pos y3] at hn2 ⊢
              obtain ⟨m, rfl⟩ : ∃ m, n = m + 1 := ⟨n - 1, by simp at hn2; omega⟩
              exact (pad_Elt (by simp [rpmE])).symm
            · rw [if_neg y3] at hn2 ⊢
              obtain ⟨m, rfl⟩ : ∃ m, n = m + 1 := ⟨n - 1, by simp at hn2; omega⟩
              exact (pad_Elt (by simp [rpmE])).symm
    | cons x as =>
      cases b' with
      | nil =>
        simp only [rpmS, rpmKS] at hn1 ⊢
        by_cases y1 : x = 126
        · rw [if_pos y1] at hn1 ⊢
          rw [if_pos y1]
          obtain ⟨m, rfl⟩ : ∃ m, n = m + 1 := ⟨n - 1, by simp at hn1; omega⟩
          exact (pad_ltE (by simp [rpmE])).symm
        · rw [if_neg y1] at hn1 ⊢
          rw [if_neg y1]
          by_cases y2 : x = 94
          · rw [if_pos y2] at hn1 ⊢
            obtain ⟨m, rfl⟩ : ∃ m, n = m + 1 := ⟨n - 1, by simp at hn1; omega⟩
            exact (pad_gtE (by simp [rpmE])).symm
          · rw [if_neg y2] at hn1 ⊢
            by_cases y3 : dig x = true
            · rw [if_pos y3] at hn1 ⊢
              obtain ⟨m, rfl⟩ : ∃ m, n = m + 1 := ⟨n - 1, by simp at hn1; omega⟩
              exact (pad_gtE (by simp [rpmE])).symm
            · rw [if_neg y3] at hn1 ⊢
              obtain ⟨m, rfl⟩ : ∃ m, n = m + 1 := ⟨n - 1, by simp at hn1; omega⟩
              exact (pad_gtE (by simp [rpmE])).symm
      | cons y bs =>
        have ox := oa rfl
        have oy := ob rfl
        obtain ⟨m, rfl⟩ : ∃ m, n = m + 1 := ⟨n - 1, by
          have : 1 ≤ (rpmKS (x :: as)).length := by
            simp only [rpmKS]
            (repeat' split) <;> simp
          omega⟩
        simp only [rpmS]
        by_cases x1 : x = 126
        · have ex : rpmKS (x :: as) = (0, (0, [])) :: rpmK as := by simp only [rpmKS, if_pos x1]
          rw [ex] at hn1 ⊢
          by_cases y1 : y = 126
          · have ey : rpmKS (y :: bs) = (0, (0, [])) :: rpmK bs := by simp only [rpmKS, if_pos y1]
            rw [ey] at hn2 ⊢
            rw [if_pos ⟨x1, y1⟩, pad_cons, cmpTok_cmp.refl, if_neg (by simp)]
            exact ih' as bs (by simp; omega) m (by simpa using hn1) (by simpa using hn2)
          · rw [if_neg (fun h => y1 h.2), if_pos x1]
            simp only [rpmKS, if_neg y1]
            (repeat' split) <;> exact (pad_lt (by simp)).symm
        · rw [if_neg (fun h => x1 h.1), if_neg x1]
          by_cases y1 : y = 126
          · rw [if_pos y1]
            simp only [rpmKS, if_neg x1, if_pos y1]
            (repeat' split) <;> exact (pad_gt (by simp)).symm
          · rw [if_neg y1]
            by_cases x2 : x = 94
            · have ex : rpmKS (x :: as) = (2, (0, [])) :: rpmK as := by simp only [rpmKS, if_neg x1, if_pos x2]
              rw [ex] at hn1 ⊢
              by_cases y2 : y = 94
              · have ey : rpmKS (y :: bs) = (2, (0, [])) :: rpmK bs := by simp only [rpmKS, if_neg y1, if_pos y2]
                rw [ey] at hn2 ⊢
                rw [if_pos ⟨x2, y2⟩, pad_cons, cmpTok_cmp.refl, if_neg (by simp)]
                exact ih' as bs (by simp; omega) m (by simpa using hn1) (by simpa using hn2)
              · rw [if_neg (fun h => y2 h.2), if_pos x2]
                simp only [rpmKS, if_neg y1, if_neg y2]
                (repeat' split) <;> exact (pad_lt (by simp)).symm
            · rw [if_neg (fun h => x2 h.1), if_neg x2]
              by_cases y2 : y = 94
              · rw [if_pos y2]
                simp only [rpmKS, if_neg x1, if_neg x2, if_neg y1, if_pos y2]
                (repeat' split) <;> exact (pad_gt (by simp)).symm
              · rw [if_neg y2]
                by_cases x3 : dig x = true
                · have ex : rpmKS (x :: as) = ((4, ((strip ((x :: as).take (cnt dig (x :: as)))).length, strip ((x :: as).take (cnt dig (x :: as))))) : Tok) :: rpmK ((x :: as).drop (cnt dig (x :: as))) := by simp only [rpmKS, if_neg x1, if_neg x2, if_pos x3]
                  rw [if_pos x3]
                  rw [ex] at hn1 ⊢
                  have cx := cnt_pos (l := as) x3
                  by_cases y3 : dig y = true
                  · have ey : rpmKS (y :: bs) = ((4, ((strip ((y :: bs).take (cnt dig (y :: bs)))).length, strip ((y :: bs).take (cnt dig (y :: bs))))) : Tok) :: rpmK ((y :: bs).drop (cnt dig (y :: bs))) := by simp only [rpmKS, if_neg y1, if_neg y2, if_pos y3]
                    have cy := cnt_pos (l := bs) y3
                    rw [if_neg (by omega)]
                    rw [ey] at hn2 ⊢
                    rw [pad_cons, cmpN_tok]
                    split
                    · rfl
                    · exact ih' _ _ (by simp only [List.length_drop, List.length_cons]; omega) m (by simpa using hn1) (by simpa using hn2)
                  · rw [if_pos (cnt_zero (by simpa using y3))]
                    simp only [rpmKS, if_neg y1, if_neg y2, if_neg y3]
                    exact (pad_gt (by simp)).symm
                · have ex : rpmKS (x :: as) = (3, (0, (x :: as).take (cnt lett (x :: as)))) :: rpmK ((x :: as).drop (cnt lett (x :: as))) := by simp only [rpmKS, if_neg x1, if_neg x2, if_neg x3]
                  rw [if_neg x3]
                  rw [ex] at hn1 ⊢
                  have cx := cnt_pos (l := as) (odd_lett ox x1 x2 x3)
                  by_cases y3 : dig y = true
                  · rw [if_pos (cnt_zero (dig_not_lett y3))]
                    simp only [rpmKS, if_neg y1, if_neg y2, if_pos y3]
                    exact (pad_lt (by simp)).symm
                  · have ey : rpmKS (y :: bs) = (3, (0, (y :: bs).take (cnt lett (y :: bs)))) :: rpmK ((y :: bs).drop (cnt lett (y :: bs))) := by simp only [rpmKS, if_neg y1, if_neg y2, if_neg y3]
                    have cy := cnt_pos (l := bs) (odd_lett oy y1 y2 y3)
                    rw [if_neg (by omega)]
                    rw [ey] at hn2 ⊢
                    rw [pad_cons, tok_B]
                    split
                    · rfl
                    · exact ih' _ _ (by simp only [List.length_drop, List.length_cons]; omega) m (by simpa using hn1) (by simpa using hn2)

theorem rpmT_cmp : IsCmp rpmT := by
  have key : ∀ a b n, (rpmK a).length ≤ n → (rpmK b).length ≤ n → rpmT a b = cmpPad rpmE n (rpmK a) (rpmK b) := fun a b n h1 h2 => rpmT_key _ a b (Nat.le_refl _) n h1 h2
  refine ⟨fun a b => ?_, fun a => ?_, fun a b => ?_, fun a b c h1 h2 => ?_⟩
  · rw [key a b ((rpmK a).length + (rpmK b).length) (by omega) (by omega)]
    exact (cmpPad_cmp _ _).tri _ _
  · rw [key a a _ (Nat.le_refl _) (Nat.le_refl _)]
    exact (cmpPad_cmp _ _).refl _
  · rw [key a b ((rpmK a).length + (rpmK b).length) (by omega) (by omega), key b a ((rpmK a).length + (rpmK b).length) (by omega) (by omega)]
    exact (cmpPad_cmp _ _).anti _ _
  · rw [key a b ((rpmK a).length + (rpmK b).length + (rpmK c).length) (by omega) (by omega)] at h1
    rw [key b c ((rpmK a).length + (rpmK b).length + (rpmK c).length) (by omega) (by omega)] at h2
    rw [key a c ((rpmK a).length + (rpmK b).length + (rpmK c).length) (by omega) (by omega)]
    exact (cmpPad_cmp _ _).trans _ _ _ h1 h2

/-! ### Debian's -/
theorem weight_dig {c : UInt8} {l : List UInt8} (h : dig c = true) : weight (c :: l) = 0 := by
  simp only [weight]
  rw [if_pos h]
theorem weight_not {c : UInt8} {l : List UInt8} (h : ¬ dig c = true) : weight (c :: l) ≠ 0 := by
  simp only [weight]
  rw [if_neg h]
  split
  · omega
  · split
    · rename_i h5
      unfold lett at h5
      simp at h5
      omega
    · omega

def debK : List UInt8 → List Tok
  | [] => []
  | c :: as => if h : dig c = true then (0, ((strip ((c :: as).take (cnt dig (c :: as)))).length, strip ((c :: as).take (cnt dig (c :: as))))) :: debK ((c :: as).drop (cnt dig (c :: as))) else (weight (c :: as), (0, [])) :: debK as
  termination_by a => a.length
  decreasing_by
    · have := cnt_pos (l := as) h
      simp only [List.length_drop, List.length_cons]
      omega
    · simp

def debE : Tok := (0, (0, []))
theorem debK_w {a : List UInt8} (h : weight a ≠ 0) : debK a = (weight a, (0, [])) :: debK a.tail := by
  cases a with
  | nil => exact absurd rfl h
  | cons c as =>
    have hc : ¬ dig c = true := fun hd => h (weight_dig hd)
    rw [debK, dif_neg hc]
    rfl
theorem debK_d {a : List UInt8} (h : weight a = 0) : (debK a).headD debE = ((0, (((strip (a.take (cnt dig a))).length : Int), strip (a.take (cnt dig a)))) : Tok) ∧ (debK a).tail = debK (a.drop (cnt dig a)) := by
  cases a with
  | nil => simp [debK, debE, strip]
  | cons c as =>
    have hc : dig c = true := by
      cases hd : dig c with
      | true => rfl
      | false => exact absurd h (weight_not (by simp [hd]))
    rw [debK, dif_pos hc]
    exact ⟨rfl, rfl⟩
theorem debK_head (a : List UInt8) : ((debK a).headD debE).1 = weight a := by
  by_cases h : weight a = 0
  · rw [(debK_d h).1, h]
  · rw [debK_w h]
    rfl
theorem debK_pos {a : List UInt8} (h : a ≠ []) : 1 ≤ (debK a).length := by
  cases a with
  | nil => exact absurd rfl h
  | cons c as =>
    rw [debK]
    split <;> simp

theorem debT_key : ∀ (N : Nat) (a b : List UInt8), a.length + b.length ≤ N → ∀ n, (debK a).length ≤ n → (debK b).length ≤ n → debT a b = cmpPad debE n (debK a) (debK b) := by
  intro N
  induction N using Nat.strongRecOn with
  | _ N ih =>
    intro a b hN n hn1 hn2
    have ih' : ∀ (c d : List UInt8), c.length + d.length < a.length + b.length → ∀ n, (debK c).length ≤ n → (debK d).length ≤ n → debT c d = cmpPad debE n (debK c) (debK d) :=
      fun c d h n h1 h2 => ih (c.length + d.length) (by omega) c d (Nat.le_refl _) n h1 h2
    by_cases h0 : a = [] ∧ b = []
    · obtain ⟨rfl, rfl⟩ := h0
      rw [debT]
      simp only [weight, ne_eq, not_true, or_self, dite_false, debK, cmpPad_nil]
      simp [cmpN, strip, cmpB]
    obtain ⟨m, rfl⟩ : ∃ m, n = m + 1 := ⟨n - 1, by
      have : 1 ≤ n := by
        by_cases ha : a = []
        · have := debK_pos (a := b) (fun h => h0 ⟨ha, h⟩); omega
        · have := debK_pos ha; omega
      omega⟩
    rw [debT]
    by_cases h : weight a ≠ 0 ∨ weight b ≠ 0
    · rw [dif_pos h]
      by_cases h2 : weight a = weight b
      · rw [dif_neg (by simpa using h2)]
        have ha : weight a ≠ 0 := by rcases h with h | h; exact h; rw [h2]; exact h
        have hb : weight b ≠ 0 := by rw [← h2]; exact ha
        rw [debK_w ha] at hn1 ⊢
        rw [debK_w hb] at hn2 ⊢
        have e : cmpTok (weight a, (0, [])) (weight b, (0, [])) = 0 := by rw [h2]; exact cmpTok_cmp.refl _
        rw [pad_cons, e, if_neg (by simp)]
        have l1 : 0 < a.length := List.length_pos_iff.2 (weight_ne ha)
        have l2 : 0 < b.length := List.length_pos_iff.2 (weight_ne hb)
        exact ih' _ _ (by simp only [List.length_tail]; omega) m (by simpa using hn1) (by simpa using hn2)
      · rw [dif_pos h2]
        simp only [cmpPad]
        have e1 := debK_head a
        have e2 := debK_head b
        have hs : sgn (weight a - weight b) ≠ 0 := by rw [Ne, sgn_zero]; omega
        have e : cmpTok ((debK a).headD debE) ((debK b).headD debE) = sgn (weight a - weight b) := by
          unfold cmpTok
          rw [e1, e2, if_pos hs]
        rw [e, if_pos hs]
    · rw [dif_neg h]
      simp only [ne_eq, not_or, Decidable.not_not] at h
      obtain ⟨a1, a2⟩ := debK_d h.1
      obtain ⟨b1, b2⟩ := debK_d h.2
      simp only [cmpPad]
      rw [a1, b1, cmpN_tok, a2, b2]
      have t1 : (debK (a.drop (cnt dig a))).length ≤ m := by rw [← a2]; simp; omega
      have t2 : (debK (b.drop (cnt dig b))).length ≤ m := by rw [← b2]; simp; omega
      split
      · rfl
      · split
        · rename_i h3
          rw [h3.1, h3.2, debK, cmpPad_nil]
        · rename_i h3
          refine ih' _ _ ?_ m t1 t2
          have key : ∀ l : List UInt8, weight l = 0 → l.drop (cnt dig l) ≠ [] → 1 ≤ cnt dig l := by
            intro l hw hd
            cases l with
            | nil => simp at hd
            | cons c l =>
              by_cases hc : dig c = true
              · exact cnt_pos hc
              · exact absurd hw (weight_not hc)
          have l1 := cnt_le dig a
          have l2 := cnt_le dig b
          simp only [List.length_drop]
          by_cases ha : a.drop (cnt dig a) = []
          · have hb : b.drop (cnt dig b) ≠ [] := fun e => h3 ⟨ha, e⟩
            have := key b h.2 hb
            omega
          · have := key a h.1 ha
            omega

theorem debT_cmp : IsCmp debT := by
  have key : ∀ a b n, (debK a).length ≤ n → (debK b).length ≤ n → debT a b = cmpPad debE n (debK a) (debK b) := fun a b n h1 h2 => debT_key _ a b (Nat.le_refl _) n h1 h2
  refine ⟨fun a b => ?_, fun a => ?_, fun a b => ?_, fun a b c h1 h2 => ?_⟩
  · rw [key a b ((debK a).length + (debK b).length) (by omega) (by omega)]
    exact (cmpPad_cmp _ _).tri _ _
  · rw [key a a _ (Nat.le_refl _) (Nat.le_refl _)]
    exact (cmpPad_cmp _ _).refl _
  · rw [key a b ((debK a).length + (debK b).length) (by omega) (by omega), key b a ((debK a).length + (debK b).length) (by omega) (by omega)]
    exact (cmpPad_cmp _ _).anti _ _
  · rw [key a b ((debK a).length + (debK b).length + (debK c).length) (by omega) (by omega)] at h1
    rw [key b c ((debK a).length + (debK b).length + (debK c).length) (by omega) (by omega)] at h2
    rw [key a c ((debK a).length + (debK b).length + (debK c).length) (by omega) (by omega)]
    exact (cmpPad_cmp _ _).trans _ _ _ h1 h2

theorem cmpN_cmp : IsCmp cmpN := by
  have h := cmpTok_cmp.pre fun l : List UInt8 => ((0, ((strip l).length, strip l)) : Tok)
  have e : cmpN = fun x y => cmpTok (0, ((strip x).length, strip x)) (0, ((strip y).length, strip y)) := by
    funext x y
    exact (cmpN_tok 0 x y).symm
  rw [e]
  exact h

/-- rpm's releases: none is less than any other. -/
def relR (x y : List UInt8) : Int := if x = [] ∨ y = [] then (if x = [] then (if y = [] then 0 else -1) else 1) else rpmT x y
theorem relR_cmp : IsCmp relR := by
  refine ⟨fun a b => ?_, fun a => ?_, fun a b => ?_, fun a b c => ?_⟩
  all_goals unfold relR
  · (repeat' split) <;> first | simp | exact rpmT_cmp.tri _ _
  · (repeat' split) <;> first | rfl | exact rpmT_cmp.refl _ | simp_all
  · by_cases h1 : a = [] <;> by_cases h2 : b = [] <;> simp [h1, h2]
    exact rpmT_cmp.anti _ _
  · by_cases h1 : a = [] <;> by_cases h2 : b = [] <;> by_cases h3 : c = [] <;> simp [h1, h2, h3]
    exact rpmT_cmp.trans _ _ _

/-- How two versions' parts compare, as a whole. -/
def allC (kind : Int) (x y : Parts) : Int := if (partsC kind x y).1 ≠ 0 then (partsC kind x y).1 else (partsC kind x y).2

theorem allC_cmp (kind : Int) : IsCmp (allC kind) := by
  by_cases h : kind = 2
  · have hp := (cmpN_cmp.prod debT_cmp).prod (debT_cmp.pre or0)
    have h2 := hp.pre fun x : Parts => ((x.1, x.2.1), x.2.2)
    have e : allC kind = fun x y => (fun (x y : (List UInt8 × List UInt8) × List UInt8) => if (fun (x y : List UInt8 × List UInt8) => if cmpN x.1 y.1 ≠ 0 then cmpN x.1 y.1 else debT x.2 y.2) x.1 y.1 ≠ 0 then (fun (x y : List UInt8 × List UInt8) => if cmpN x.1 y.1 ≠ 0 then cmpN x.1 y.1 else debT x.2 y.2) x.1 y.1 else (fun x y => debT (or0 x) (or0 y)) x.2 y.2) ((x.1, x.2.1), x.2.2) ((y.1, y.2.1), y.2.2) := by
      funext x y
      simp only [allC, partsC, if_pos h]
    rw [e]
    exact h2
  · have hp := (cmpN_cmp.prod rpmT_cmp).prod relR_cmp
    have h2 := hp.pre fun x : Parts => ((x.1, x.2.1), x.2.2)
    have e : allC kind = fun x y => (fun (x y : (List UInt8 × List UInt8) × List UInt8) => if (fun (x y : List UInt8 × List UInt8) => if cmpN x.1 y.1 ≠ 0 then cmpN x.1 y.1 else rpmT x.2 y.2) x.1 y.1 ≠ 0 then (fun (x y : List UInt8 × List UInt8) => if cmpN x.1 y.1 ≠ 0 then cmpN x.1 y.1 else rpmT x.2 y.2) x.1 y.1 else relR x.2 y.2) ((x.1, x.2.1), x.2.2) ((y.1, y.2.1), y.2.2) := by
      funext x y
      simp only [allC, partsC, if_neg h, relR]
    rw [e]
    exact h2
end Go.Proofs.YtgggbjkgpjcklaaDoor
