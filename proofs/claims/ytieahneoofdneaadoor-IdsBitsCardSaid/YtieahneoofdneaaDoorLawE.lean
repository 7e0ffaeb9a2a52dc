/-
  The plain laws of srtd lists: put into a rising list, merged, in common, without. No program in sight; no conditions beyond those typed.
-/
import Derived.Lib.SlicesCompact
import Derived.Lib.RowBridge
namespace Go.Proofs.YtieahneoofdneaaDoor
set_option linter.unusedVariables false
set_option linter.unusedSimpArgs false

/-- A list that rises, each number once. -/
def Rising (l : List Int) : Prop := l.Pairwise (· < ·)

theorem Rising.tail {x : Int} {l : List Int} (h : Rising (x :: l)) : Rising l := (List.pairwise_cons.1 h).2
theorem Rising.head {x : Int} {l : List Int} (h : Rising (x :: l)) : ∀ y ∈ l, x < y := (List.pairwise_cons.1 h).1
theorem Rising.cons {x : Int} {l : List Int} (h : Rising l) (hx : ∀ y ∈ l, x < y) : Rising (x :: l) := List.pairwise_cons.2 ⟨hx, h⟩
theorem Rising.nil : Rising [] := List.Pairwise.nil
theorem Rising.filter {l : List Int} (h : Rising l) (p : Int → Bool) : Rising (l.filter p) := List.Pairwise.filter p h

theorem rising_ext : ∀ {l m : List Int}, Rising l → Rising m → (∀ x, x ∈ l ↔ x ∈ m) → l = m
  | [], [], _, _, _ => rfl
  | [], y :: m, _, _, h => by have := (h y).2 (by simp); cases this
  | x :: l, [], _, _, h => by have := (h x).1 (by simp); cases this
  | x :: l, y :: m, hl, hm, h => by
    have hxy : x = y := by
      have h1 := (h x).1 (by simp)
      have h2 := (h y).2 (by simp)
      rcases List.mem_cons.1 h1 with e | h1
      · exact e
      rcases List.mem_cons.1 h2 with e | h2
      · exact e.symm
      have := hl.head y h2
      have := hm.head x h1
      omega
    subst hxy
    congr 1
    refine rising_ext hl.tail hm.tail fun z => ?_
    constructor
    · intro hz
      rcases List.mem_cons.1 ((h z).1 (by simp [hz])) with e | h1
      · have := hl.head z hz; omega
      · exact h1
    · intro hz
      rcases List.mem_cons.1 ((h z).2 (by simp [hz])) with e | h1
      · have := hm.head z hz; omega
      · exact h1

/-! ### the document's -/
def put1 : List Int → Int → List Int
  | [], n => [n]
  | x :: l, n => if x < n then x :: put1 l n else if x = n then x :: l else n :: x :: l

theorem mem_put1 : ∀ {l : List Int} {n m : Int}, m ∈ put1 l n ↔ m = n ∨ m ∈ l
  | [], n, m => by simp [put1]
  | x :: l, n, m => by
    unfold put1
    split
    · rw [List.mem_cons, mem_put1, List.mem_cons]
      constructor
      · rintro (h | h | h) <;> simp [h]
      · rintro (h | h | h) <;> simp [h]
    · split
      · rename_i h
        subst h
        simp
      · simp

theorem put1_rising : ∀ {l : List Int} {n : Int}, Rising l → Rising (put1 l n)
  | [], n, _ => List.pairwise_singleton _ _
  | x :: l, n, h => by
    unfold put1
    split
    · rename_i hx
      refine (put1_rising h.tail).cons fun y hy => ?_
      rcases mem_put1.1 hy with rfl | hy
      · exact hx
      · exact h.head y hy
    · split
      · exact h
      · refine h.cons fun y hy => ?_
        rcases List.mem_cons.1 hy with rfl | hy
        · omega
        · have := h.head y hy; omega

def refSort (l : List Int) : List Int := l.foldl put1 []

theorem foldl_rising : ∀ {l acc : List Int}, Rising acc → Rising (l.foldl put1 acc)
  | [], acc, h => h
  | x :: l, acc, h => foldl_rising (l := l) (put1_rising h)
theorem mem_foldl : ∀ {l acc : List Int} {m : Int}, m ∈ l.foldl put1 acc ↔ m ∈ acc ∨ m ∈ l
  | [], acc, m => by simp
  | x :: l, acc, m => by
    rw [List.foldl_cons, mem_foldl, mem_put1, List.mem_cons]
    constructor
    · rintro ((h | h) | h) <;> simp [h]
    · rintro (h | h | h) <;> simp [h]
theorem refSort_rising (l : List Int) : Rising (refSort l) := foldl_rising Rising.nil
theorem mem_refSort {l : List Int} {m : Int} : m ∈ refSort l ↔ m ∈ l := by simp [refSort, mem_foldl]

/-! ### Sort's -/
def srtd (zs : List Int) : List Int := Lib.compact (zs.mergeSort fun x y => decide (x ≤ y))

theorem compactUpTo_law (zs : List Int) (h : zs.Pairwise (· ≤ ·)) : ∀ m, m ≤ zs.length →
    Rising (Lib.compactUpTo zs.toArray m) ∧ (∀ x, x ∈ Lib.compactUpTo zs.toArray m ↔ x ∈ zs.take m) ∧ (∀ x ∈ Lib.compactUpTo zs.toArray m, ∀ j (hj : j < zs.length), m ≤ j + 1 → x ≤ zs[j])
  | 0, _ => by
    refine ⟨by simp [Lib.compactUpTo]; exact Rising.nil, by simp [Lib.compactUpTo], by simp [Lib.compactUpTo]⟩
  | m + 1, hm => by
    obtain ⟨h1, h2, h3⟩ := compactUpTo_law zs h m (by omega)
    rw [Lib.compactUpTo_succ]
    have hg : zs.toArray[m]! = zs[m] := by simp [getElem!_pos, show m < zs.length by omega]
    rw [hg]
    have hpw : ∀ i j (hi : i < j) (hj : j < zs.length), zs[i] ≤ zs[j] := fun i j hi hj => List.pairwise_iff_getElem.1 h i j (by omega) hj hi
    have h3' : ∀ j (hj : j < zs.length), m ≤ j → zs[m] ≤ zs[j] := fun j hj hmj => by
      rcases Nat.lt_or_ge m j with h4 | h4
      · exact hpw m j h4 hj
      · obtain rfl : m = j := by omega
        exact Int.le_refl _
    have htake : zs.take (m + 1) = zs.take m ++ [zs[m]] := List.take_succ_eq_append_getElem (by omega)
    by_cases hk : Lib.keeps zs.toArray m = true
    · rw [if_pos hk]
      have hlt : ∀ x ∈ Lib.compactUpTo zs.toArray m, x < zs[m] := by
        intro x hx
        by_cases hm0 : m = 0
        · subst hm0; simp [Lib.compactUpTo] at hx
        · have ha := h3 x hx (m - 1) (by omega) (by omega)
          have hb := hpw (m - 1) m (by omega) (by omega)
          have hg1 : zs.toArray[m - 1]! = zs[m - 1] := by simp [getElem!_pos, show m - 1 < zs.length by omega]
          have hne : zs[m] ≠ zs[m - 1] := by
            unfold Lib.keeps at hk
            rw [hg, hg1] at hk
            simpa [hm0] using hk
          omega
      refine ⟨?_, ?_, ?_⟩
      · refine List.pairwise_append.2 ⟨h1, List.pairwise_singleton _ _, ?_⟩
        intro x hx y hy
        rw [List.mem_singleton] at hy
        subst hy
        exact hlt x hx
      · intro x
        rw [htake, List.mem_append, List.mem_append, h2]
      · intro x hx j hj hmj
        rcases List.mem_append.1 hx with hx | hx
        · have := hlt x hx
          have := h3' j hj (by omega)
          omega
        · rw [List.mem_singleton] at hx
          subst hx
          exact h3' j hj (by omega)
    · rw [if_neg hk, List.append_nil]
      have hm0 : m ≠ 0 := by
        intro e
        subst e
        simp [Lib.keeps] at hk
      have hg1 : zs.toArray[m - 1]! = zs[m - 1] := by simp [getElem!_pos, show m - 1 < zs.length by omega]
      have he : zs[m] = zs[m - 1] := by
        unfold Lib.keeps at hk
        rw [hg, hg1] at hk
        simpa [hm0] using hk
      refine ⟨h1, ?_, fun x hx j hj hmj => h3 x hx j hj (by omega)⟩
      intro x
      rw [htake, List.mem_append, h2]
      constructor
      · exact .inl
      · rintro (hx | hx)
        · exact hx
        · rw [List.mem_singleton] at hx
          subst hx
          rw [he]
          rw [List.mem_take_iff_getElem]
          exact ⟨m - 1, by omega, rfl⟩

theorem mergeSort_le (zs : List Int) : (zs.mergeSort fun x y => decide (x ≤ y)).Pairwise (· ≤ ·) := by
  have h := List.pairwise_mergeSort (le := fun x y : Int => decide (x ≤ y)) (by intro a b c; simp; omega) (by intro a b; simp; omega) zs
  exact h.imp (by simp)

theorem srtd_rising (zs : List Int) : Rising (srtd zs) := (compactUpTo_law _ (mergeSort_le zs) _ (Nat.le_refl _)).1
theorem mem_srtd {zs : List Int} {x : Int} : x ∈ srtd zs ↔ x ∈ zs := by
  have h := (compactUpTo_law _ (mergeSort_le zs) _ (Nat.le_refl _)).2.1 x
  rw [List.take_length] at h
  exact h.trans (List.mem_mergeSort)
theorem srtd_length (zs : List Int) : (srtd zs).length ≤ zs.length := by
  have := Lib.compact_length_le (zs.mergeSort fun x y => decide (x ≤ y))
  rw [List.length_mergeSort] at this
  exact this
theorem srtd_ref (zs : List Int) : srtd zs = refSort zs := rising_ext (srtd_rising zs) (refSort_rising zs) fun x => mem_srtd.trans mem_refSort.symm

/-! ### merged -/
def opt (c : Bool) (x : Int) : List Int := if c then [x] else []

/-- Two rising lists, what stays of them. -/
def mrg (st : Bool → Bool → Bool) : List Int → List Int → List Int
  | [], [] => []
  | x :: xs, [] => opt (st true false) x ++ mrg st xs []
  | [], y :: ys => opt (st false true) y ++ mrg st [] ys
  | x :: xs, y :: ys =>
    if x < y then opt (st true false) x ++ mrg st xs (y :: ys)
    else if y < x then opt (st false true) y ++ mrg st (x :: xs) ys
    else opt (st true true) x ++ mrg st xs ys
  termination_by a b => a.length + b.length

theorem mem_opt {c : Bool} {x z : Int} : z ∈ opt c x ↔ z = x ∧ c = true := by unfold opt; split <;> simp_all

theorem mrg_sub (st : Bool → Bool → Bool) : ∀ (xs ys : List Int) (z : Int), z ∈ mrg st xs ys → z ∈ xs ∨ z ∈ ys := by
  intro xs ys
  induction xs, ys using mrg.induct with
  | case1 => intro z hz; simp [mrg] at hz
  | case2 x xs ih =>
    intro z hz
    rw [mrg, List.mem_append, mem_opt] at hz
    rcases hz with ⟨rfl, _⟩ | hz
    · simp
    · rcases ih z hz with h | h <;> simp_all
  | case3 y ys ih =>
    intro z hz
    rw [mrg, List.mem_append, mem_opt] at hz
    rcases hz with ⟨rfl, _⟩ | hz
    · simp
    · rcases ih z hz with h | h <;> simp_all
  | case4 x xs y ys hlt ih =>
    intro z hz
    rw [mrg, if_pos hlt, List.mem_append, mem_opt] at hz
    rcases hz with ⟨rfl, _⟩ | hz
    · simp
    · rcases ih z hz with h | h
      · simp [h]
      · exact .inr h
  | case5 x xs y ys hlt hlt2 ih =>
    intro z hz
    rw [mrg, if_neg hlt, if_pos hlt2, List.mem_append, mem_opt] at hz
    rcases hz with ⟨rfl, _⟩ | hz
    · simp
    · rcases ih z hz with h | h
      · exact .inl h
      · simp [h]
  | case6 x xs y ys hlt hlt2 ih =>
    intro z hz
    rw [mrg, if_neg hlt, if_neg hlt2, List.mem_append, mem_opt] at hz
    rcases hz with ⟨rfl, _⟩ | hz
    · simp
    · rcases ih z hz with h | h <;> simp [h]

theorem opt_append_rising {c : Bool} {x : Int} {l : List Int} (hl : Rising l) (h : ∀ z ∈ l, x < z) : Rising (opt c x ++ l) := by
  unfold opt
  split
  · exact hl.cons h
  · exact hl

theorem mrg_law (st : Bool → Bool → Bool) : ∀ (xs ys : List Int), Rising xs → Rising ys → Rising (mrg st xs ys) ∧ ∀ z, z ∈ mrg st xs ys ↔ (z ∈ xs ∨ z ∈ ys) ∧ st (decide (z ∈ xs)) (decide (z ∈ ys)) = true := by
  intro xs ys
  induction xs, ys using mrg.induct with
  | case1 => intro _ _; refine ⟨by rw [mrg]; exact Rising.nil, fun z => by simp [mrg]⟩
  | case2 x xs ih =>
    intro hx hy
    obtain ⟨i1, i2⟩ := ih hx.tail hy
    rw [mrg]
    refine ⟨opt_append_rising i1 fun z hz => ?_, fun z => ?_⟩
    · rcases mrg_sub _ _ _ _ hz with h | h
      · exact hx.head z h
      · cases h
    · rw [List.mem_append, mem_opt, i2]
      by_cases hzx : z = x
      · subst hzx
        have : z ∉ xs := fun h => by have := hx.head z h; omega
        simp [this]
      · simp [hzx]
  | case3 y ys ih =>
    intro hx hy
    obtain ⟨i1, i2⟩ := ih hx hy.tail
    rw [mrg]
    refine ⟨opt_append_rising i1 fun z hz => ?_, fun z => ?_⟩
    · rcases mrg_sub _ _ _ _ hz with h | h
      · cases h
      · exact hy.head z h
    · rw [List.mem_append, mem_opt, i2]
      by_cases hzx : z = y
      · subst hzx
        have : z ∉ ys := fun h => by have := hy.head z h; omega
        simp [this]
      · simp [hzx]
  | case4 x xs y ys hlt ih =>
    intro hx hy
    obtain ⟨i1, i2⟩ := ih hx.tail hy
    rw [mrg, if_pos hlt]
    have hxy : ∀ z ∈ y :: ys, x < z := by
      intro z hz
      rcases List.mem_cons.1 hz with rfl | hz
      · exact hlt
      · have := hy.head z hz; omega
    refine ⟨opt_append_rising i1 fun z hz => ?_, fun z => ?_⟩
    · rcases mrg_sub _ _ _ _ hz with h | h
      · exact hx.head z h
      · exact hxy z h
    · rw [List.mem_append, mem_opt, i2]
      by_cases hzx : z = x
      · subst hzx
        have h1 : z ∉ xs := fun h => by have := hx.head z h; omega
        have h2 : z ∉ y :: ys := fun h => by have := hxy z h; omega
        simp only [h1, h2, decide_false, List.mem_cons, true_or, decide_true, or_false, false_or, true_and, false_and, or_self]
      · simp only [List.mem_cons, hzx, false_or, false_and]
  | case5 x xs y ys hlt hlt2 ih =>
    intro hx hy
    obtain ⟨i1, i2⟩ := ih hx hy.tail
    rw [mrg, if_neg hlt, if_pos hlt2]
    have hxy : ∀ z ∈ x :: xs, y < z := by
      intro z hz
      rcases List.mem_cons.1 hz with rfl | hz
      · exact hlt2
      · have := hx.head z hz; omega
    refine ⟨opt_append_rising i1 fun z hz => ?_, fun z => ?_⟩
    · rcases mrg_sub _ _ _ _ hz with h | h
      · exact hxy z h
      · exact hy.head z h
    · rw [List.mem_append, mem_opt, i2]
      by_cases hzx : z = y
      · subst hzx
        have h1 : z ∉ ys := fun h => by have := hy.head z h; omega
        have h2 : z ∉ x :: xs := fun h => by have := hxy z h; omega
        simp only [h1, h2, decide_false, List.mem_cons, true_or, or_true, decide_true, or_false, false_or, true_and, false_and, or_self]
      · simp only [List.mem_cons, hzx, false_or, false_and]
  | case6 x xs y ys hlt hlt2 ih =>
    intro hx hy
    obtain ⟨i1, i2⟩ := ih hx.tail hy.tail
    rw [mrg, if_neg hlt, if_neg hlt2]
    obtain rfl : x = y := by omega
    refine ⟨opt_append_rising i1 fun z hz => ?_, fun z => ?_⟩
    · rcases mrg_sub _ _ _ _ hz with h | h
      · exact hx.head z h
      · exact hy.head z h
    · rw [List.mem_append, mem_opt, i2]
      by_cases hzx : z = x
      · subst hzx
        have h1 : z ∉ xs := fun h => by have := hx.head z h; omega
        have h2 : z ∉ ys := fun h => by have := hy.head z h; omega
        simp only [h1, h2, List.mem_cons, true_or, decide_true, or_false, true_and, false_and, or_self]
      · simp only [List.mem_cons, hzx, false_or, false_and]

def stUnion : Bool → Bool → Bool := fun _ _ => true
def stMeet : Bool → Bool → Bool := fun a b => a && b
def stMinus : Bool → Bool → Bool := fun _ b => !b

def mergedOf (st : Bool → Bool → Bool) (a b : List Int) : List Int := mrg st (srtd a) (srtd b)
theorem mergedOf_rising (st : Bool → Bool → Bool) (a b : List Int) : Rising (mergedOf st a b) := (mrg_law st _ _ (srtd_rising a) (srtd_rising b)).1
theorem mem_mergedOf {st : Bool → Bool → Bool} {a b : List Int} {z : Int} : z ∈ mergedOf st a b ↔ (z ∈ a ∨ z ∈ b) ∧ st (decide (z ∈ a)) (decide (z ∈ b)) = true := by
  have h := (mrg_law st _ _ (srtd_rising a) (srtd_rising b)).2 z
  unfold mergedOf
  rw [h]
  simp only [mem_srtd]
theorem mem_union {a b : List Int} {z : Int} : z ∈ mergedOf stUnion a b ↔ z ∈ a ∨ z ∈ b := by rw [mem_mergedOf]; simp [stUnion]
theorem mem_meet {a b : List Int} {z : Int} : z ∈ mergedOf stMeet a b ↔ z ∈ a ∧ z ∈ b := by
  rw [mem_mergedOf]
  simp only [stMeet, Bool.and_eq_true, decide_eq_true_eq]
  exact ⟨fun h => h.2, fun h => ⟨.inl h.1, h⟩⟩
theorem mem_minus {a b : List Int} {z : Int} : z ∈ mergedOf stMinus a b ↔ z ∈ a ∧ z ∉ b := by
  rw [mem_mergedOf]
  simp only [stMinus, Bool.not_eq_true', decide_eq_false_iff_not]
  constructor
  · rintro ⟨h | h, h2⟩
    · exact ⟨h, h2⟩
    · exact absurd h h2
  · exact fun h => ⟨.inl h.1, h.2⟩

theorem mrg_length (st : Bool → Bool → Bool) : ∀ (xs ys : List Int), (mrg st xs ys).length ≤ xs.length + ys.length := by
  have ho : ∀ c x, (opt c x).length ≤ 1 := fun c x => by unfold opt; split <;> simp
  intro xs ys
  induction xs, ys using mrg.induct with
  | case1 => simp [mrg]
  | case2 x xs ih => have := ho (st true false) x; rw [mrg, List.length_append, List.length_cons]; omega
  | case3 y ys ih => have := ho (st false true) y; rw [mrg, List.length_append, List.length_cons]; omega
  | case4 x xs y ys h1 ih => have := ho (st true false) x; rw [mrg, if_pos h1, List.length_append, List.length_cons]; omega
  | case5 x xs y ys h1 h2 ih => have := ho (st false true) y; rw [mrg, if_neg h1, if_pos h2, List.length_append]; simp only [List.length_cons] at ih ⊢; omega
  | case6 x xs y ys h1 h2 ih => have := ho (st true true) x; rw [mrg, if_neg h1, if_neg h2, List.length_append]; simp only [List.length_cons] at ih ⊢; omega
theorem mergedOf_length (st : Bool → Bool → Bool) (a b : List Int) : (mergedOf st a b).length ≤ a.length + b.length := by
  have h1 := mrg_length st (srtd a) (srtd b)
  have h2 := srtd_length a
  have h3 := srtd_length b
  unfold mergedOf
  omega

/-! ### the document's lists are these -/
theorem union_ref (a b : List Int) : mergedOf stUnion a b = refSort (a ++ b) :=
  rising_ext (mergedOf_rising _ _ _) (refSort_rising _) fun x => by rw [mem_union, mem_refSort, List.mem_append]
theorem meet_ref (a b : List Int) : mergedOf stMeet a b = refSort (a.filter fun x => decide (x ∈ b)) :=
  rising_ext (mergedOf_rising _ _ _) (refSort_rising _) fun x => by rw [mem_meet, mem_refSort, List.mem_filter]; simp
theorem minus_ref (a b : List Int) : mergedOf stMinus a b = refSort (a.filter fun x => !decide (x ∈ b)) :=
  rising_ext (mergedOf_rising _ _ _) (refSort_rising _) fun x => by rw [mem_minus, mem_refSort, List.mem_filter]; simp

/-! ### the three parts -/
theorem three_parts (p q : Int → Bool) : ∀ (l : List Int), (∀ x ∈ l, p x = true ∨ q x = true) →
    (l.filter fun x => p x && !q x).length + (l.filter fun x => p x && q x).length + (l.filter fun x => q x && !p x).length = l.length
  | [], _ => rfl
  | x :: l, h => by
    have ih := three_parts p q l (fun y hy => h y (by simp [hy]))
    have hx := h x (by simp)
    simp only [List.filter_cons, List.length_cons]
    cases h1 : p x <;> cases h2 : q x <;> simp_all <;> omega

theorem parts_length (a b : List Int) : (mergedOf stMinus a b).length + (mergedOf stMeet a b).length + (mergedOf stMinus b a).length = (mergedOf stUnion a b).length := by
  have hU := mergedOf_rising stUnion a b
  have e1 : mergedOf stMinus a b = (mergedOf stUnion a b).filter fun x => decide (x ∈ a) && !decide (x ∈ b) :=
    rising_ext (mergedOf_rising _ _ _) (hU.filter _) fun x => by rw [mem_minus, List.mem_filter, mem_union]; simp; intro h _; exact .inl h
  have e2 : mergedOf stMeet a b = (mergedOf stUnion a b).filter fun x => decide (x ∈ a) && decide (x ∈ b) :=
    rising_ext (mergedOf_rising _ _ _) (hU.filter _) fun x => by rw [mem_meet, List.mem_filter, mem_union]; simp; intro h _; exact .inl h
  have e3 : mergedOf stMinus b a = (mergedOf stUnion a b).filter fun x => decide (x ∈ b) && !decide (x ∈ a) :=
    rising_ext (mergedOf_rising _ _ _) (hU.filter _) fun x => by rw [mem_minus, List.mem_filter, mem_union]; simp; intro h _; exact .inr h
  rw [e1, e2, e3]
  exact three_parts (fun x => decide (x ∈ a)) (fun x => decide (x ∈ b)) _ fun x hx => by rcases mem_union.1 hx with h | h <;> simp [h]

theorem union_comm (a b : List Int) : mergedOf stUnion a b = mergedOf stUnion b a :=
  rising_ext (mergedOf_rising _ _ _) (mergedOf_rising _ _ _) fun x => by rw [mem_union, mem_union, or_comm]
theorem meet_comm (a b : List Int) : mergedOf stMeet a b = mergedOf stMeet b a :=
  rising_ext (mergedOf_rising _ _ _) (mergedOf_rising _ _ _) fun x => by rw [mem_meet, mem_meet, and_comm]
theorem parts_union (a b : List Int) : mergedOf stUnion (mergedOf stMinus a b) (mergedOf stUnion (mergedOf stMeet a b) (mergedOf stMinus b a)) = mergedOf stUnion a b :=
  rising_ext (mergedOf_rising _ _ _) (mergedOf_rising _ _ _) fun x => by
    rw [mem_union, mem_union, mem_union, mem_minus, mem_meet, mem_minus]
    by_cases h1 : x ∈ a <;> by_cases h2 : x ∈ b <;> simp [h1, h2]
end Go.Proofs.YtieahneoofdneaaDoor
