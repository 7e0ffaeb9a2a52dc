/-
  The numbers whose bits are set, rising: how they come one by one. No program in sight; no conditions beyond those typed.
-/
import Derived.Test.YtieahneoofdneaaDoorBitsA
import Derived.Lib.TrailingZeros
namespace Go.Proofs.YtieahneoofdneaaDoor
set_option linter.unusedVariables false
set_option linter.unusedSimpArgs false

/-- The list of the bits. -/
def IsBits (W : Nat → Nat) (l : List Int) : Prop := Rising l ∧ ∀ n : Int, n ∈ l ↔ 0 ≤ n ∧ n < 65536 ∧ bitAt W n.toNat = true

/-- What has come ahead of t. -/
def upTo (l : List Int) (t : Int) : List Int := l.filter fun n => decide (n < t)
theorem upTo_prefix : ∀ {l : List Int} (t : Int), Rising l → upTo l t <+: l
  | [], t, _ => List.nil_prefix
  | x :: l, t, h => by
    unfold upTo
    by_cases hx : x < t
    · rw [List.filter_cons, if_pos (by simpa using hx)]
      exact List.cons_prefix_cons.2 ⟨rfl, upTo_prefix t h.tail⟩
    · rw [List.filter_cons, if_neg (by simpa using hx)]
      have : l.filter (fun n => decide (n < t)) = [] := by
        rw [List.filter_eq_nil_iff]
        intro y hy
        have := h.head y hy
        simp only [decide_eq_true_eq]
        omega
      rw [this]
      exact List.nil_prefix
theorem upTo_next {l : List Int} {t m : Int} (h : Rising l) (hm : m ∈ l) (htm : t ≤ m) (hno : ∀ n ∈ l, t ≤ n → m ≤ n) : upTo l (m + 1) = upTo l t ++ [m] := by
  refine rising_ext (h.filter _) ?_ fun x => ?_
  · refine List.pairwise_append.2 ⟨h.filter _, List.pairwise_singleton _ _, fun a ha b hb => ?_⟩
    rw [List.mem_singleton] at hb
    subst hb
    have := (List.mem_filter.1 ha).2
    simp only [decide_eq_true_eq] at this
    omega
  · unfold upTo
    rw [List.mem_append, List.mem_filter, List.mem_filter, List.mem_singleton]
    simp only [decide_eq_true_eq]
    constructor
    · rintro ⟨h1, h2⟩
      by_cases hx : x < t
      · exact .inl ⟨h1, hx⟩
      · right
        have := hno x h1 (by omega)
        omega
    · rintro (⟨h1, h2⟩ | rfl)
      · exact ⟨h1, by omega⟩
      · exact ⟨hm, by omega⟩
theorem upTo_same {l : List Int} {t t' : Int} (htt : t ≤ t') (hno : ∀ n ∈ l, t ≤ n → t' ≤ n) : upTo l t' = upTo l t := by
  unfold upTo
  refine List.filter_congr fun x hx => ?_
  by_cases h : x < t
  · rw [decide_eq_true h, decide_eq_true (by omega)]
  · have := hno x hx (by omega)
    rw [decide_eq_false h, decide_eq_false (by omega)]
theorem upTo_all {l : List Int} {t : Int} (h : ∀ n ∈ l, n < t) : upTo l t = l := by
  unfold upTo
  rw [List.filter_eq_self]
  intro x hx
  exact decide_eq_true (h x hx)
theorem upTo_none {l : List Int} {t : Int} (h : ∀ n ∈ l, t ≤ n) : upTo l t = [] := by
  unfold upTo
  rw [List.filter_eq_nil_iff]
  intro x hx
  have := h x hx
  simp only [decide_eq_true_eq]
  omega

/-- What is left of a word: its bits from c on. -/
def Left (W : Nat → Nat) (i x c : Nat) : Prop := c ≤ 64 ∧ x < 18446744073709551616 ∧ ∀ j, x.testBit j = ((W i).testBit j && decide (c ≤ j))
theorem Left.start {W : Nat → Nat} (h : ∀ j, W j < 18446744073709551616) (i : Nat) : Left W i (W i) 0 := ⟨Nat.zero_le _, h i, fun j => by simp⟩
theorem bits_of {x : Nat} (h0 : x ≠ 0) (h : x < 18446744073709551616) : Lib.ctz 64 x < 64 ∧ x.testBit (Lib.ctz 64 x) = true ∧ (∀ j, j < Lib.ctz 64 x → x.testBit j = false) ∧ ∀ j, (x &&& (x - 1)).testBit j = (x.testBit j && decide (Lib.ctz 64 x + 1 ≤ j)) := by
  obtain ⟨m, hm, hk⟩ := Lib.ctzFrom_spec 64 x (by omega) h
  have e : Lib.ctz 64 x = Lib.ctzFrom 64 x := by simp [Lib.ctz, h0]
  rw [e]
  generalize Lib.ctzFrom 64 x = k at *
  have hp : 0 < 2 ^ k := Nat.two_pow_pos k
  have hb : ∀ j, x.testBit j = (decide (k ≤ j) && (2 * m + 1).testBit (j - k)) := fun j => by
    rw [hm, Nat.mul_comm, Nat.testBit_mul_two_pow]
  have hx1 : x - 1 = 2 ^ k * (2 * m) + (2 ^ k - 1) := by
    rw [hm, Nat.mul_add, Nat.mul_one]
    omega
  have hc : ∀ j, (x - 1).testBit j = if j < k then (2 ^ k - 1).testBit j else (2 * m).testBit (j - k) := fun j => by
    rw [hx1, Nat.testBit_two_pow_mul_add _ (by omega)]
  refine ⟨hk, ?_, fun j hj => ?_, fun j => ?_⟩
  · rw [hb]
    simp [Nat.testBit_zero]
  · rw [hb, decide_eq_false (by omega)]
    rfl
  · rw [Nat.testBit_and, hc]
    by_cases h1 : j < k
    · rw [hb, decide_eq_false (show ¬ k ≤ j by omega)]
      simp
    · rw [if_neg h1]
      by_cases h2 : j = k
      · subst h2
        simp [Nat.testBit_zero]
      · have h3 : k + 1 ≤ j := by omega
        rw [decide_eq_true h3, hb, decide_eq_true (by omega : k ≤ j)]
        obtain ⟨d, hd⟩ : ∃ d, j - k = d + 1 := ⟨j - k - 1, by omega⟩
        rw [hd, Nat.testBit_succ, Nat.testBit_succ]
        rw [show (2 * m + 1) / 2 = m by omega, show (2 * m) / 2 = m by omega]
        simp
theorem Left.zero {W : Nat → Nat} {i c : Nat} (h : Left W i 0 c) (hw : W i < 18446744073709551616) : ∀ j, c ≤ j → (W i).testBit j = false := fun j hj => by
  have := h.2.2 j
  rw [Nat.zero_testBit, decide_eq_true hj, Bool.and_true] at this
  exact this.symm
theorem bit_of_word {W : Nat → Nat} {l : List Int} (hl : IsBits W l) {i j : Nat} (hi : i < 1024) (hj : j < 64) : ((64 * i + j : Nat) : Int) ∈ l ↔ (W i).testBit j = true := by
  rw [hl.2]
  unfold bitAt
  rw [Int.toNat_natCast, show (64 * i + j) / 64 = i by omega, show (64 * i + j) % 64 = j by omega]
  constructor
  · exact fun h => h.2.2
  · exact fun h => ⟨by omega, by omega, h⟩
theorem word_of_bit {W : Nat → Nat} {l : List Int} (hl : IsBits W l) {n : Int} (hn : n ∈ l) : ∃ i j, i < 1024 ∧ j < 64 ∧ n = ((64 * i + j : Nat) : Int) ∧ (W i).testBit j = true := by
  obtain ⟨h0, h1, h2⟩ := (hl.2 n).1 hn
  exact ⟨n.toNat / 64, n.toNat % 64, by omega, by omega, by omega, h2⟩

/-- A number comes. -/
theorem Left.step {W : Nat → Nat} {l : List Int} (hl : IsBits W l) (hw : ∀ j, W j < 18446744073709551616) {i x c : Nat} (h : Left W i x c) (hi : i < 1024) (h0 : x ≠ 0) :
    upTo l ((64 * i + c : Nat) : Int) ++ [((64 * i + Lib.ctz 64 x : Nat) : Int)] = upTo l ((64 * i + (Lib.ctz 64 x + 1) : Nat) : Int) ∧ Left W i (x &&& (x - 1)) (Lib.ctz 64 x + 1) ∧ Lib.ctz 64 x < 64 := by
  obtain ⟨hk, hb, hlow, hnext⟩ := bits_of h0 h.2.1
  generalize Lib.ctz 64 x = k at *
  have hc := h.2.2 k
  rw [hb] at hc
  have hc2 : (W i).testBit k = true ∧ c ≤ k := by simpa using hc.symm
  refine ⟨?_, ⟨by omega, Nat.lt_of_le_of_lt Nat.and_le_left h.2.1, fun j => ?_⟩, hk⟩
  · have := upTo_next (t := ((64 * i + c : Nat) : Int)) (m := ((64 * i + k : Nat) : Int)) hl.1 ((bit_of_word hl hi hk).2 hc2.1) (by omega) (fun n hn htn => by
      obtain ⟨i', j', hi', hj', rfl, hb'⟩ := word_of_bit hl hn
      by_cases hii : i' = i
      · subst hii
        have h3 : c ≤ j' := by omega
        have h4 := h.2.2 j'
        rw [hb', decide_eq_true h3] at h4
        by_cases h5 : j' < k
        · rw [hlow j' h5] at h4; cases h4
        · omega
      · omega)
    rw [← this]
    congr 1
  · rw [hnext, h.2.2 j]
    by_cases h5 : k + 1 ≤ j
    · rw [decide_eq_true h5, decide_eq_true (by omega : c ≤ j)]
      simp
    · rw [decide_eq_false h5]
      simp
/-- A word is done. -/
theorem Left.done {W : Nat → Nat} {l : List Int} (hl : IsBits W l) (hw : ∀ j, W j < 18446744073709551616) {i c : Nat} (h : Left W i 0 c) (hi : i < 1024) : upTo l ((64 * i + c : Nat) : Int) = upTo l ((64 * (i + 1) + 0 : Nat) : Int) := by
  have hc := h.1
  refine (upTo_same (by omega) fun n hn htn => ?_).symm
  obtain ⟨i', j', hi', hj', rfl, hb'⟩ := word_of_bit hl hn
  by_cases hii : i' = i
  · subst hii
    have := h.zero (hw i') j' (by omega)
    rw [hb'] at this
    cases this
  · omega
theorem upTo_first {W : Nat → Nat} {l : List Int} (hl : IsBits W l) : upTo l ((64 * 0 + 0 : Nat) : Int) = [] := upTo_none fun n hn => by have := ((hl.2 n).1 hn).1; omega
theorem upTo_last {W : Nat → Nat} {l : List Int} (hl : IsBits W l) : upTo l ((64 * 1024 + 0 : Nat) : Int) = l := upTo_all fun n hn => by have := ((hl.2 n).1 hn).2.1; omega

/-- The measure of a word: its bits. -/
theorem and_pred_lt {x : Nat} (h : x ≠ 0) : x &&& (x - 1) < x := Nat.lt_of_le_of_lt Nat.and_le_right (by omega)
end Go.Proofs.YtieahneoofdneaaDoor
