/-
  Texts cut, trimmed: what the library answers, in plain words. Helper text; the conditions are those typed.
-/
import Derived.Test.YtjcefgjgjhdbpaaGreatDoorSuseSpec
import Derived.Test.YtjcefgjgjhdbpaaGreatDoorMemX
import Derived.Test.YtjcefgjgjhdbpaaGreatDoorOrd
import Derived.BigQuiet
import Derived.OwnWalk
namespace Go.Proofs.YtjcefgjgjhdbpaaGreatDoor
set_option linter.unusedVariables false
set_option linter.unusedSimpArgs false
open Go.RowKit Go.Maps

/-- What stands ahead of a byte, and behind it. -/
def cutA (c : UInt8) (l : List UInt8) : List UInt8 := l.takeWhile (· != c)
def cutZ (c : UInt8) (l : List UInt8) : List UInt8 := (l.dropWhile (· != c)).drop 1
theorem cut_none {c : UInt8} : ∀ {l : List UInt8}, Lib.indexByte l c = -1 → cutA c l = l ∧ cutZ c l = [] ∧ decide (c ∈ l) = false
  | [], _ => ⟨rfl, rfl, by simp⟩
  | x :: l, h => by
    have h0 := Lib.indexByte_none h
    have hx : x ≠ c := fun e => h0 0 (by rw [e]; rfl)
    have hl : Lib.indexByte l c = -1 := by
      have hge := Lib.indexByte_ge l c
      unfold Lib.indexByte at h
      rw [if_neg (by simpa using hx)] at h
      by_cases h1 : Lib.indexByte l c = -1
      · exact h1
      · rw [if_neg (by simpa using h1)] at h
        omega
    obtain ⟨i1, i2, i3⟩ := cut_none hl
    unfold cutA at i1 ⊢
    unfold cutZ at i2 ⊢
    rw [List.takeWhile_cons, List.dropWhile_cons, if_pos (by simpa using hx), if_pos (by simpa using hx), i1]
    refine ⟨rfl, i2, ?_⟩
    have := of_decide_eq_false i3
    simp [this, Ne.symm hx]
theorem cut_some {c : UInt8} : ∀ {l : List UInt8} {i : Nat}, Lib.indexByte l c = i → cutA c l = l.take i ∧ cutZ c l = l.drop (i + 1) ∧ decide (c ∈ l) = true ∧ i < l.length
  | [], i, h => by
    unfold Lib.indexByte at h
    omega
  | x :: l, i, h => by
    unfold Lib.indexByte at h
    by_cases hx : x = c
    · rw [if_pos (by simpa using hx)] at h
      obtain rfl : i = 0 := by omega
      subst hx
      unfold cutA cutZ
      rw [List.takeWhile_cons, List.dropWhile_cons, if_neg (by simp), if_neg (by simp)]
      exact ⟨rfl, rfl, by simp, by simp⟩
    · rw [if_neg (by simpa using hx)] at h
      by_cases h1 : Lib.indexByte l c = -1
      · rw [if_pos (by simpa using h1)] at h
        omega
      · rw [if_neg (by simpa using h1)] at h
        have hge := Lib.indexByte_ge l c
        obtain ⟨k, rfl⟩ : ∃ k, i = k + 1 := ⟨i - 1, by omega⟩
        obtain ⟨i1, i2, i3, i4⟩ := cut_some (c := c) (l := l) (i := k) (by omega)
        unfold cutA at i1 ⊢
        unfold cutZ at i2 ⊢
        rw [List.takeWhile_cons, List.dropWhile_cons, if_pos (by simpa using hx), if_pos (by simpa using hx), i1]
        refine ⟨rfl, i2, ?_, by simp; omega⟩
        have := of_decide_eq_true i3
        simp [this]
theorem mkB_take (s : ByteArray) (i : Nat) : mkB ((bs s).take i) = s.extract 0 i := by
  rw [← bs_head]
  rfl
theorem mkB_drop (s : ByteArray) (i : Nat) : mkB ((bs s).drop i) = s.extract i s.size := by
  rw [← bs_tail]
  rfl
set_option maxHeartbeats 2000000 in
set_option maxRecDepth 100000 in
/-- stringslite.Cut at one byte. -/
theorem lite_cut (s : ByteArray) (c : UInt8) (hs : s.size ≤ maxLen) (w : World) : Calls Tryz.prog 43 #[.string s, .string ⟨#[c]⟩] w fun e w' => e = .returned (.tuple #[.string (mkB (cutA c (bs s))), .string (mkB (cutZ c (bs s))), .bool (decide (c ∈ bs s))]) ∧ Below w.heap.size w w' := by
  unfold maxLen at hs
  have HI := Lib.hid (index_c s c w)
  by_cases h : Lib.indexByte (bs s) c = -1
  · obtain ⟨h1, h2, h3⟩ := cut_none h
    rw [h1, h2, h3, mkB_bs]
    rw [h] at HI
    go_enter Tryz.func43, Tryz.ntmps43
    go_wp2_with fail
    refine HI.out.mono ?_
    rintro e w' ⟨rfl, rfl⟩
    go_wp2_with fail
    go_ret3
    exact ⟨rfl, Below.refl _ _⟩
  · obtain ⟨i, hi⟩ : ∃ i : Nat, Lib.indexByte (bs s) c = i := ⟨(Lib.indexByte (bs s) c).toNat, by have := Lib.indexByte_ge (bs s) c; omega⟩
    obtain ⟨h1, h2, h3, h4⟩ := cut_some hi
    rw [h1, h2, h3, mkB_take, mkB_drop]
    rw [hi] at HI
    have h4 : i < s.size := by rw [← bs_length]; exact h4
    have i0 : (0 : Int) ≤ (i : Int) := by omega
    have i1 : (i : Int) ≤ (s.size : Int) := by omega
    have i2 : (i : Int) + 1 ≤ (s.size : Int) := by omega
    clear h1 h2 h3
    go_enter Tryz.func43, Tryz.ntmps43
    go_wp2_with fail
    refine HI.out.mono ?_
    rintro e w' ⟨rfl, rfl⟩
    go_wp2_with fail
    go_quiet (fail)
    go_wp2_with fail
    go_ret3
    exact ⟨by first | rfl | (simp; omega), below_drewN (Below.refl _ _) nq⟩
set_option maxHeartbeats 1000000 in
/-- strings.Cut at one byte. -/
theorem cut1_c (s : ByteArray) (c : UInt8) (hs : s.size ≤ maxLen) (w : World) : Calls Tryz.prog 14 #[.string s, .string ⟨#[c]⟩] w fun e w' => e = .returned (.tuple #[.string (mkB (cutA c (bs s))), .string (mkB (cutZ c (bs s))), .bool (decide (c ∈ bs s))]) ∧ Below w.heap.size w w' := by
  have H := Lib.hid (lite_cut s c hs w)
  generalize mkB (cutA c (bs s)) = a at H ⊢
  generalize mkB (cutZ c (bs s)) = b at H ⊢
  generalize decide (c ∈ bs s) = f at H ⊢
  go_enter Tryz.func14, Tryz.ntmps14
  go_wp2_with fail
  refine H.out.mono ?_
  rintro e w' ⟨rfl, hb⟩
  have HB := Lib.hid hb
  clear hb
  go_wp2_with fail
  go_ret3
  exact ⟨rfl, HB.out⟩
theorem trimT_is (l : List UInt8) : Lib.trimS l [32, 9] = trimT l := by
  unfold Lib.trimS Lib.trimLeftS Lib.trimRightS trimT
  have e : (fun b : UInt8 => ([32, 9] : List UInt8).contains b) = layB := by
    funext b
    unfold layB
    simp only [List.contains_cons, List.contains_nil, Bool.or_false]
  rw [e]
/-- strings.Trim, layout. -/
theorem trim_c (s : ByteArray) (hs : s.size ≤ maxLen) (w : World) : Calls Tryz.prog 15 #[.string s, .string ⟨#[32, 9]⟩] w fun e w' => e = .returned (.string (mkB (trimT (bs s)))) ∧ Below w.heap.size w w' := by
  refine (Any.strings_Trim_laid Tryz.layTrim (by kernel_rfl) s ⟨#[32, 9]⟩ w hs (by decide) (fun j b hb => ?_)).mono ?_
  · match j with
    | 0 => cases hb; decide
    | 1 => cases hb; decide
    | j + 2 => cases hb
  · rintro e w' ⟨h1, h2⟩
    refine ⟨?_, h2⟩
    rw [h1]
    show Ending.returned (.string (mkB (Lib.trimS (bs s) [32, 9]))) = _
    rw [trimT_is]
theorem trimB_is : ∀ l : List UInt8, Lib.trimLeftB l 32 = trimB l
  | [] => rfl
  | c :: l => by
    unfold Lib.trimLeftB trimB
    rw [List.dropWhile_cons]
    by_cases h : c = 32
    · rw [if_pos (by simpa using h), if_pos h]
      exact trimB_is l
    · rw [if_neg (by simpa using h), if_neg h]
/-- strings.TrimLeft, blanks. -/
theorem trimL_c (s : ByteArray) (w : World) : Calls Tryz.prog 128 #[.string s, .string ⟨#[32]⟩] w fun e w' => e = .returned (.string (mkB (trimB (bs s)))) ∧ w' = w := by
  refine (Any.strings_TrimLeft_one Tryz.layTrimLeft s 32 (by decide) w).mono ?_
  rintro e w' ⟨h1, h2⟩
  refine ⟨?_, h2⟩
  rw [h1]
  show Ending.returned (.string (mkB (Lib.trimLeftB (bs s) 32))) = _
  rw [trimB_is]
theorem strip1_is (l : List UInt8) : Lib.trimPrefix l [32] = strip1 l := by
  cases l with
  | nil => rfl
  | cons c l =>
    show Lib.trimPrefix (c :: l) [32] = if c = 32 then l else c :: l
    unfold Lib.trimPrefix Lib.hasPrefix
    by_cases h : c = 32
    · subst h
      rfl
    · rw [if_neg h, if_neg (by simp [List.isPrefixOf, Ne.symm h])]
/-- strings.TrimPrefix, a blank. -/
theorem strip_c (s : ByteArray) (w : World) : Calls Tryz.prog 18 #[.string s, .string ⟨#[32]⟩] w fun e w' => e = .returned (.string (mkB (strip1 (bs s)))) ∧ w' = w := by
  refine (Any.strings_TrimPrefix Tryz.layTrimPrefix s ⟨#[32]⟩ w).mono ?_
  rintro e w' ⟨h1, h2⟩
  refine ⟨?_, h2⟩
  rw [h1]
  show Ending.returned (.string (mkB (Lib.trimPrefix (bs s) [32]))) = _
  rw [strip1_is]
/-- strings.HasPrefix, a byte. -/
theorem begins_c (s : ByteArray) (c : UInt8) (w : World) : Calls Tryz.prog 20 #[.string s, .string ⟨#[c]⟩] w fun e w' => e = .returned (.bool ((bs s).head? == some c)) ∧ w' = w := by
  refine (Any.strings_HasPrefix Tryz.layPrefix s ⟨#[c]⟩ w).mono ?_
  rintro e w' ⟨h1, h2⟩
  refine ⟨?_, h2⟩
  rw [h1]
  show Ending.returned (.bool (Lib.hasPrefix (bs s) [c])) = _
  congr 2
  unfold Lib.hasPrefix
  cases bs s with
  | nil => rfl
  | cons x l => simp [List.isPrefixOf, Bool.beq_comm, eq_comm]
end Go.Proofs.YtjcefgjgjhdbpaaGreatDoor
