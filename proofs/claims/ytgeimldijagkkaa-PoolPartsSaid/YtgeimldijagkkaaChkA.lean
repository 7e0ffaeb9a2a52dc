/-
  The runes of a text, asked for: pool.Check's closures. Helper text; the conditions are those typed.
-/
import Derived.Test.YtgeimldijagkkaaPoolRDeps
import Derived.Shelf.GgClosure.StringsIndexFuncTop
import Derived.Laws.RangeAny
namespace Go.Proofs.Ytgeimldijagkkaa
set_option linter.unusedVariables false
set_option linter.unusedSimpArgs false
open Go.RowKit Go.Maps

def smallR (r : Nat) : Bool := (decide (97 ≤ r) && decide (r ≤ 122)) || (decide (48 ≤ r) && decide (r ≤ 57)) || decide (r = 95)
def shownR (r : Nat) : Bool := decide (32 ≤ r) && decide (r ≤ 126)
theorem smallR_lt {r : Nat} (h : smallR r = true) : r < 128 := by
  unfold smallR at h
  simp only [Bool.or_eq_true, Bool.and_eq_true, decide_eq_true_eq] at h
  omega
theorem shownR_lt {r : Nat} (h : shownR r = true) : r < 128 := by
  unfold shownR at h
  simp only [Bool.and_eq_true, decide_eq_true_eq] at h
  omega

theorem small_at (w : World) : PredAt Try.prog 22 #[] encR smallR w := fun W r _ => by
  unfold FnGives
  have H : (¬ 97 ≤ (r : Int) ∧ (¬ 48 ≤ (r : Int) ∧ ((r : Int) == 95) = false ∧ smallR r = false ∨ 48 ≤ (r : Int) ∧ (r : Int) ≤ 57 ∧ smallR r = true ∨ 48 ≤ (r : Int) ∧ ¬ (r : Int) ≤ 57 ∧ (((r : Int) == 95) = smallR r))) ∨ (97 ≤ (r : Int) ∧ (r : Int) ≤ 122 ∧ smallR r = true) ∨ (97 ≤ (r : Int) ∧ ¬ (r : Int) ≤ 122 ∧ 48 ≤ (r : Int) ∧ ¬ (r : Int) ≤ 57 ∧ ((r : Int) == 95) = false ∧ smallR r = false) := by
    have e : ((r : Int) == 95) = decide (r = 95) := by
      by_cases h : r = 95
      · subst h; rfl
      · rw [decide_eq_false h]
        have : ¬ (r : Int) = 95 := by omega
        simpa using this
    rw [e]
    unfold smallR
    by_cases h1 : 97 ≤ r
    · by_cases h2 : r ≤ 122
      · right; left
        exact ⟨by omega, by omega, by simp [h1, h2]⟩
      · right; right
        refine ⟨by omega, by omega, by omega, by omega, ?_, ?_⟩
        · exact decide_eq_false (by omega)
        · have a1 : ¬ r ≤ 57 := by omega
          have a2 : ¬ r = 95 := by omega
          simp [h1, h2, a1, a2]
    · left
      refine ⟨by omega, ?_⟩
      by_cases h3 : 48 ≤ r
      · right
        by_cases h4 : r ≤ 57
        · left; exact ⟨by omega, by omega, by simp [h3, h4]⟩
        · right; exact ⟨by omega, by omega, by simp [h1, h3, h4]⟩
      · left
        have a2 : ¬ r = 95 := by omega
        exact ⟨by omega, decide_eq_false a2, by simp [h1, h3, a2]⟩
  generalize smallR r = x at H
  rcases H with ⟨h1, ⟨h2, h3, rfl⟩ | ⟨h2, h3, rfl⟩ | ⟨h2, h3, rfl⟩⟩ | ⟨h1, h2, rfl⟩ | ⟨h1, h2, h3, h4, h5, rfl⟩
  all_goals
    go_enter Try.func22, Try.ntmps22
    go_wp2_with fail
    go_ret
    exact ⟨rfl, 0, rfl⟩
theorem shown_at (w : World) : PredAt Try.prog 23 #[] encR shownR w := fun W r _ => by
  unfold FnGives
  have H : (¬ 32 ≤ (r : Int) ∧ shownR r = false) ∨ (32 ≤ (r : Int) ∧ (r : Int) ≤ 126 ∧ shownR r = true) ∨ (32 ≤ (r : Int) ∧ ¬ (r : Int) ≤ 126 ∧ shownR r = false) := by
    unfold shownR
    by_cases h1 : 32 ≤ r
    · right
      by_cases h2 : r ≤ 126
      · left; exact ⟨by omega, by omega, by simp [h1, h2]⟩
      · right; exact ⟨by omega, by omega, by simp [h1, h2]⟩
    · left; exact ⟨by omega, by simp [h1]⟩
  generalize shownR r = x at H
  rcases H with ⟨h1, rfl⟩ | ⟨h1, h2, rfl⟩ | ⟨h1, h2, rfl⟩
  all_goals
    go_enter Try.func23, Try.ntmps23
    go_wp2_with fail
    go_ret
    exact ⟨rfl, 0, rfl⟩

theorem enters22 : ∀ args w, (callFunc 22 args).run Try.prog w = .ok (.enter 22 args) w := fun args w => by kernel_rfl
theorem enters23 : ∀ args w, (callFunc 23 args).run Try.prog w = .ok (.enter 23 args) w := fun args w => by kernel_rfl
theorem enters26 : ∀ args w, (callFunc 26 args).run Try.prog w = .ok (.enter 26 args) w := fun args w => by kernel_rfl
theorem enters24 : ∀ args w, (callFunc 24 args).run Try.prog w = .ok (.enter 24 args) w := fun args w => by kernel_rfl
theorem enters31 : ∀ args w, (callFunc 31 args).run Try.prog w = .ok (.enter 31 args) w := fun args w => by kernel_rfl

theorem not_at (g : Nat) (eg : ∀ args w, (callFunc g args).run Try.prog w = .ok (.enter g args) w) (p : Nat → Bool) (w : World) (hp : PredAt Try.prog g #[] encR p w) (b : Nat) (hb : b < w.heap.size) (hc : w.cell? ⟨b, 0, none⟩ = some (.func (.func g) #[] #[])) :
    PredAt Try.prog 26 #[.pointer (some ⟨b, 0, none⟩)] encR (fun r => !p r) w := fun W r hB => by
  have hc' : W.cell? ⟨b, 0, none⟩ = some (.func (.func g) #[] #[]) := (hB.cell (p := ⟨b, 0, none⟩) hb).trans hc
  have HP := Lib.hid (hp W r hB)
  clear hp hc hB hb
  unfold FnGives
  go_enter Try.func26, Try.ntmps26
  go_wp2_with (go_at_fn g; refine HP.out.mono ?_; rintro e w' ⟨rfl, q, rfl⟩)
  go_ret
  exact ⟨rfl, q, rfl⟩

set_option maxHeartbeats 1000000 in
theorem within_c (g : Nat) (eg : ∀ args w, (callFunc g args).run Try.prog w = .ok (.enter g args) w) (p : Nat → Bool) (hp : ∀ w, PredAt Try.prog g #[] encR p w) (s : ByteArray) (m : Int) (w : World) :
    Calls Try.prog 24 #[.string s, .int .i64 m, .func (.func g) #[] #[]] w fun e w' => e = .returned (.bool (decide ((s.size : Int) ≤ m) && decide (Lib.idxFunc (fun r => !p r) true s < 0))) ∧ Below w.heap.size w w' := by
  obtain ⟨w1, e1⟩ : ∃ w1, w.alloc (.cells #[.func (.func g) #[] #[]] 50) = w1 := ⟨_, rfl⟩
  have hI : Hid (Calls Try.prog 25 #[.string s, .func (.func 26) #[] #[.pointer (some ⟨w.heap.size, 0, none⟩)]] w1 fun e w' => e = .returned (.int .i64 (Lib.idxFunc (fun r => !p r) true s)) ∧ Below w1.heap.size w1 w') := by
    refine Any.strings_IndexFunc Try.layIdxF 26 _ enters26 _ s w1 (not_at g eg p w1 (hp w1) w.heap.size ?_ ?_)
    · rw [← e1]; simp
    · rw [← e1]; simp
  have hB : Hid (Below w.heap.size w w1) := by rw [← e1]; exact below1 _ _
  obtain ⟨I, hI0⟩ : ∃ I, Lib.idxFunc (fun r => !p r) true s = I := ⟨_, rfl⟩
  rw [hI0] at hI ⊢
  replace hI0 := Lib.hid hI0
  go_enter Try.func24, Try.ntmps24
  by_cases hm : (s.size : Int) ≤ m
  · by_cases h0 : I < 0
    · go_wp2_with fail
      refine hI.out.mono ?_
      rintro e w2 ⟨rfl, hb2⟩
      replace hb2 := Lib.hid (below_tr hB.out hb2)
      go_wp2_with fail
      go_ret
      exact ⟨by simp only [hm, h0]; rfl, hb2.out⟩
    · go_wp2_with fail
      refine hI.out.mono ?_
      rintro e w2 ⟨rfl, hb2⟩
      replace hb2 := Lib.hid (below_tr hB.out hb2)
      go_wp2_with fail
      go_ret
      exact ⟨by simp only [hm, h0]; rfl, hb2.out⟩
  · go_wp2_with fail
    go_ret
    exact ⟨by rw [decide_eq_false (by omega)]; rfl, hB.out⟩

/-- Every byte is asked for. -/
def allBy (p : Nat → Bool) (s : ByteArray) : Bool := (bs s).all fun b => p b.toNat
theorem idx_all (p : Nat → Bool) (hp : ∀ r, p r = true → r < 128) (s : ByteArray) : ∀ (f pos : Nat), s.size ≤ pos + f → (Lib.idxFuncFrom (fun r => !p r) true s f pos < 0 ↔ ∀ i (h : i < s.size), pos ≤ i → p s[i].toNat = true)
  | 0, pos, hf => by
    refine ⟨fun _ i h hi => by omega, fun _ => by show (-1 : Int) < 0; decide⟩
  | f + 1, pos, hf => by
    unfold Lib.idxFuncFrom
    by_cases hpos : pos < s.size
    · rw [if_pos hpos]
      by_cases ha : (s[pos]'hpos).toNat < 128
      · rw [decode_ascii s pos hpos ha]
        cases hq : p (s[pos]'hpos).toNat with
        | false =>
          simp only [Bool.not_false, if_true]
          refine ⟨fun h => absurd h (by omega), fun h => ?_⟩
          have := h pos hpos (Nat.le_refl _)
          rw [hq] at this; cases this
        | true =>
          simp only [hq, Bool.not_true, if_false, Bool.false_eq_true]
          rw [idx_all p hp s f (pos + 1) (by omega)]
          refine ⟨fun h i hi hle => ?_, fun h i hi hle => h i hi (by omega)⟩
          rcases Nat.eq_or_lt_of_le hle with e | e
          · subst e; exact hq
          · exact h i hi e
      · have hd := (decode_high s pos hpos (by omega)).1
        have hn : p (Utf8.decode s pos).1 = false := by
          cases h : p (Utf8.decode s pos).1 with
          | false => rfl
          | true => have := hp _ h; omega
        rw [hn]
        simp only [Bool.not_false, if_true]
        refine ⟨fun h => absurd h (by omega), fun h => ?_⟩
        have := hp _ (h pos hpos (Nat.le_refl _))
        omega
    · rw [if_neg hpos]
      exact ⟨fun _ i h hi => by omega, fun _ => by decide⟩
theorem idx_by (p : Nat → Bool) (hp : ∀ r, p r = true → r < 128) (s : ByteArray) : decide (Lib.idxFunc (fun r => !p r) true s < 0) = allBy p s := by
  unfold Lib.idxFunc allBy
  rw [Bool.eq_iff_iff, decide_eq_true_eq, idx_all p hp s s.size 0 (by omega), List.all_eq_true]
  constructor
  · intro h x hx
    obtain ⟨i, hi, rfl⟩ := List.getElem_of_mem hx
    have hi' : i < s.size := by rw [← bs_length]; exact hi
    exact h i hi' (Nat.zero_le _)
  · intro h i hi _
    exact h _ (List.getElem_mem (l := bs s) (by rw [bs_length]; exact hi))
end Go.Proofs.Ytgeimldijagkkaa
