/-
  Meets, whole: the contract. Helper text; the conditions are those typed.
-/
import Derived.Test.YtgggbjkgpjcklaaDoorWalkJ
namespace Go.Proofs.YtgggbjkgpjcklaaDoor
set_option linter.unusedVariables false
set_option linter.unusedSimpArgs false
open Go.RowKit

def badArgs (k op o : Int) : Prop := (k ≠ 1 ∧ k ≠ 2) ∨ op < 0 ∨ 7 < op ∨ o < 0 ∨ 7 < o

theorem meets_bad (k op o : Int) (h : badArgs k op o) (a b : ByteArray) (w : World) :
    Calls Tryd.prog 16 #[.int .i64 k, .int .i64 op, .string a, .int .i64 o, .string b] w fun en w' => en = .returned (.tuple #[.bool false, .int .i64 1]) ∧ w = w' := by
  unfold badArgs at h
  by_cases h1 : k ≠ 1 ∧ k ≠ 2
  · have B1 : (k != 1) = true := by simpa using h1.1
    have B2 : (k != 2) = true := by simpa using h1.2
    clear h h1
    go_enter Tryd.func16, Tryd.ntmps16
    go_wp2
    go_ret2
    exact ⟨rfl, rfl⟩
  · have hk : k = 1 ∨ k = 2 := by omega
    have h2 : op < 0 ∨ 7 < op ∨ o < 0 ∨ 7 < o := h.resolve_left h1
    clear h h1
    by_cases c1 : op < 0
    · clear h2
      rcases hk with rfl | rfl
      all_goals
        go_enter Tryd.func16, Tryd.ntmps16
        go_wp2
        go_ret2
        exact ⟨rfl, rfl⟩
    · by_cases c2 : 7 < op
      · clear h2
        rcases hk with rfl | rfl
        all_goals
          go_enter Tryd.func16, Tryd.ntmps16
          go_wp2
          go_ret2
          exact ⟨rfl, rfl⟩
      · by_cases c3 : o < 0
        · clear h2
          rcases hk with rfl | rfl
          all_goals
            go_enter Tryd.func16, Tryd.ntmps16
            go_wp2
            go_ret2
            exact ⟨rfl, rfl⟩
        · have c4 : 7 < o := by omega
          clear h2
          rcases hk with rfl | rfl
          all_goals
            go_enter Tryd.func16, Tryd.ntmps16
            go_wp2
            go_ret2
            exact ⟨rfl, rfl⟩

theorem meets_zero (k : Int) (hk : k = 1 ∨ k = 2) (op o : Int) (a1 : 0 ≤ op) (a2 : op ≤ 7) (a3 : 0 ≤ o) (a4 : o ≤ 7) (h : op = 0 ∨ o = 0) (a b : ByteArray) (w : World) :
    Calls Tryd.prog 16 #[.int .i64 k, .int .i64 op, .string a, .int .i64 o, .string b] w fun en w' => en = .returned (.tuple #[.bool true, .int .i64 0]) ∧ w = w' := by
  have c1 : ¬ op < 0 := by omega
  have c2 : ¬ 7 < op := by omega
  have c3 : ¬ o < 0 := by omega
  have c4 : ¬ 7 < o := by omega
  by_cases h0 : op = 0
  · have B : (op == 0) = true := by simpa using h0
    clear h h0
    rcases hk with rfl | rfl
    all_goals
      go_enter Tryd.func16, Tryd.ntmps16
      go_wp2
      go_ret2
      exact ⟨rfl, rfl⟩
  · have h1 : o = 0 := h.resolve_left h0
    have B : (op == 0) = false := by simpa using h0
    have B' : (o == 0) = true := by simpa using h1
    clear h h0 h1
    rcases hk with rfl | rfl
    all_goals
      go_enter Tryd.func16, Tryd.ntmps16
      go_wp2
      go_ret2
      exact ⟨rfl, rfl⟩

theorem meets_err (k : Int) (hk : k = 1 ∨ k = 2) (op o : Int) (ho : inOp op) (ho' : inOp o) (a b : ByteArray) (v1 v2 : ByteArray × ByteArray × ByteArray) (w : World)
    (h : ∀ w, Calls Tryd.prog 30 #[.int .i64 k, .string a, .string b] w fun en w' => en = .returned (.tuple #[.agg #[.string v1.1, .string v1.2.1, .string v1.2.2], .agg #[.string v2.1, .string v2.2.1, .string v2.2.2], .int .i64 30]) ∧ Below w.heap.size w w') :
    Calls Tryd.prog 16 #[.int .i64 k, .int .i64 op, .string a, .int .i64 o, .string b] w fun en w' => en = .returned (.tuple #[.bool false, .int .i64 30]) ∧ Below w.heap.size w w' := by
  have HP := Lib.hid h
  clear h
  obtain ⟨o1, o2⟩ := ho
  obtain ⟨o3, o4⟩ := ho'
  have z1 : (op == 0) = false := by simp; omega
  have z2 : (o == 0) = false := by simp; omega
  rcases hk with rfl | rfl
  all_goals
    go_enter Tryd.func16, Tryd.ntmps16
    go_wp2_with fail
    refine (HP.out _).mono ?_
    rintro e w1 ⟨rfl, hb⟩
    have HB := Lib.hid hb
    clear hb
    go_wp2
    go_ret2
    exact ⟨rfl, HB.out.trans (below_to (below2 w1 _ _) HB.out.size)⟩

theorem meetsE_bad {k op o : Int} (h : badArgs k op o) (a b : List UInt8) : meetsE k op a o b = (false, 1) := by
  unfold meetsE
  exact if_pos h
theorem meetsE_zero {k op o : Int} (h : ¬ badArgs k op o) (h0 : op = 0 ∨ o = 0) (a b : List UInt8) : meetsE k op a o b = (true, 0) := by
  unfold meetsE
  exact (if_neg h).trans (if_pos h0)
theorem meetsE_none {k op o : Int} (h : ¬ badArgs k op o) (h0 : ¬ (op = 0 ∨ o = 0)) {a b : List UInt8} (hn : parse a = none ∨ parse b = none) : meetsE k op a o b = (false, 30) := by
  unfold meetsE
  refine (if_neg h).trans ((if_neg h0).trans ?_)
  rcases hn with h | h
  · rw [h]
  · rw [h]
    cases parse a <;> rfl
def relP (k : Int) (x y : Parts) : Int := if (partsC k x y).1 = 0 ∧ x.2.2 ≠ [] ∧ y.2.2 ≠ [] then (partsC k x y).2 else (partsC k x y).1
theorem meetsE_ok {k op o : Int} (h : ¬ badArgs k op o) (h0 : ¬ (op = 0 ∨ o = 0)) {a b : List UInt8} {x y : Parts} (h1 : parse a = some x) (h2 : parse b = some y) : meetsE k op a o b = (meetsC op o (relP k x y), 0) := by
  unfold meetsE
  refine (if_neg h).trans ((if_neg h0).trans ?_)
  rw [h1, h2]
  rfl

theorem meets_ok (k : Int) (hk : k = 1 ∨ k = 2) (op o : Int) (ho : inOp op) (ho' : inOp o) (a b : ByteArray) (ha : a.size ≤ maxLen) (hb : b.size ≤ maxLen) {e1 v1 r1 e2 v2 r2 : ByteArray} (h : parse (bs a) = some (bs e1, bs v1, bs r1)) (h' : parse (bs b) = some (bs e2, bs v2, bs r2)) (w : World) :
    Calls Tryd.prog 16 #[.int .i64 k, .int .i64 op, .string a, .int .i64 o, .string b] w fun en w' => en = .returned (.tuple #[.bool (meetsC op o (relP k (bs e1, bs v1, bs r1) (bs e2, bs v2, bs r2))), .int .i64 0]) ∧ Below w.heap.size w w' := by
  have hP := both_ok k hk a b ha hb h h'
  obtain ⟨l1, l2, l3⟩ := parse_len h
  obtain ⟨l4, l5, l6⟩ := parse_len h'
  simp only [bs_length] at l1 l2 l3 l4 l5 l6
  have m : (60 : Nat) ≤ maxLen := by unfold maxLen; omega
  have hQ := parts_c k e1 v1 r1 e2 v2 r2 (Nat.le_trans l1 m) (Nat.le_trans l4 m) (Nat.le_trans l2 m) (Nat.le_trans l5 m) (Nat.le_trans l3 m) (Nat.le_trans l6 m)
  rw [← meetsV_eq ho ho']
  unfold relP
  simp only
  generalize (partsC k (bs e1, bs v1, bs r1) (bs e2, bs v2, bs r2)).1 = c at *
  generalize (partsC k (bs e1, bs v1, bs r1) (bs e2, bs v2, bs r2)).2 = d at *
  simp only [ne_eq, bs_nil]
  rcases Int.lt_trichotomy c 0 with hc | hc | hc
  · rw [if_neg (by rintro ⟨h, _⟩; omega)]
    exact meets_lt k hk op o ho ho' a b e1 v1 r1 e2 v2 r2 c d hc w hP hQ _ rfl
  · subst hc
    by_cases n1 : r1.size = 0
    · rw [if_neg (by rintro ⟨_, h, _⟩; exact h n1)]
      obtain rfl := bs_zero n1
      exact meets_e1 k hk op o ho ho' a b e1 v1 e2 v2 r2 d w hP hQ _ rfl
    · have N1 := bs_nonempty (s := r1) (by omega)
      by_cases n2 : r2.size = 0
      · rw [if_neg (by rintro ⟨_, _, h⟩; exact h n2)]
        obtain rfl := bs_zero n2
        exact meets_e2 k hk op o ho ho' a b e1 v1 r1 e2 v2 d N1 w hP hQ _ rfl
      · have N2 := bs_nonempty (s := r2) (by omega)
        rw [if_pos ⟨rfl, n1, n2⟩]
        rcases Int.lt_trichotomy d 0 with hd | hd | hd
        · exact meets_dlt k hk op o ho ho' a b e1 v1 r1 e2 v2 r2 d N1 N2 hd w hP hQ _ rfl
        · subst hd
          exact meets_d0 k hk op o ho ho' a b e1 v1 r1 e2 v2 r2 N1 N2 w hP hQ _ rfl
        · exact meets_dgt k hk op o ho ho' a b e1 v1 r1 e2 v2 r2 d N1 N2 hd w hP hQ _ rfl
  · rw [if_neg (by rintro ⟨h, _⟩; omega)]
    exact meets_gt k hk op o ho ho' a b e1 v1 r1 e2 v2 r2 c d hc w hP hQ _ rfl

/-- Meets. -/
theorem evrMeets_c (k op o : Int) (a b : ByteArray) (ha : a.size ≤ maxLen) (hb : b.size ≤ maxLen) (w : World) :
    Calls Tryd.prog 16 #[.int .i64 k, .int .i64 op, .string a, .int .i64 o, .string b] w fun en w' => en = .returned (.tuple #[.bool (meetsE k op (bs a) o (bs b)).1, .int .i64 (meetsE k op (bs a) o (bs b)).2]) ∧ Below w.heap.size w w' := by
  by_cases hbad : badArgs k op o
  · rw [meetsE_bad hbad]
    exact (meets_bad k op o hbad a b w).mono fun _ _ ⟨h1, h2⟩ => ⟨h1, h2 ▸ Below.refl _ _⟩
  · have hb' := hbad
    unfold badArgs at hb'
    have hk : k = 1 ∨ k = 2 := by omega
    by_cases h0 : op = 0 ∨ o = 0
    · rw [meetsE_zero hbad h0]
      exact (meets_zero k hk op o (by omega) (by omega) (by omega) (by omega) h0 a b w).mono fun _ _ ⟨h1, h2⟩ => ⟨h1, h2 ▸ Below.refl _ _⟩
    · have ho : inOp op := ⟨by omega, by omega⟩
      have ho' : inOp o := ⟨by omega, by omega⟩
      cases h : parse (bs a) with
      | none =>
        rw [meetsE_none hbad h0 (.inl h)]
        exact meets_err k hk op o ho ho' a b (⟨#[]⟩, ⟨#[]⟩, ⟨#[]⟩) (⟨#[]⟩, ⟨#[]⟩, ⟨#[]⟩) w (both_a k hk a b ha h)
      | some x =>
        obtain ⟨e1, v1, r1, rfl, _⟩ := parse_form h
        cases h' : parse (bs b) with
        | none =>
          rw [meetsE_none hbad h0 (.inr h')]
          exact meets_err k hk op o ho ho' a b (e1, v1, r1) (⟨#[]⟩, ⟨#[]⟩, ⟨#[]⟩) w (both_b k hk a b ha hb h h')
        | some y =>
          obtain ⟨e2, v2, r2, rfl, _⟩ := parse_form h'
          rw [meetsE_ok hbad h0 h h']
          exact meets_ok k hk op o ho ho' a b ha hb h h' w
end Go.Proofs.YtgggbjkgpjcklaaDoor
