/-
  Does a text fit a pattern: both walks. Helper text; the conditions are those typed.
-/
import Derived.Test.YtnplmembdfklcaaGreatDoorWalkB
namespace Go.Proofs.YtnplmembdfklcaaGreatDoor
set_option linter.unusedVariables false
set_option linter.unusedSimpArgs false
open Go.RowKit

def fitsB (how : Int) (p s : List UInt8) : Bool := if how = 1 then p == s else if how = 2 then Lib.hasPrefix s p else if how = 3 then Lib.contains s p else if how = 4 then G p s else false
theorem bsEq (a b : ByteArray) : (a.toList == b.toList) = (bs a == bs b) := by rw [toList_bs, toList_bs]

/-- The variable that strings.Index reads holds an int. -/
def MaxLenC (w : World) : Prop := ∃ m, w.cell? ⟨Tryz.layContains_ren.g 1, 0, none⟩ = some (.int .i64 m)
theorem MaxLenC.of_shaped {w : World} (h : w.ShapedOpen Tryz.prog) : MaxLenC w := Tryz.layContains.s1_3 w h
theorem MaxLenC.below {w w' : World} (h : MaxLenC w) (hb : Below w.heap.size w w') : MaxLenC w' := by
  obtain ⟨m, hm⟩ := h
  exact ⟨m, cell_tr hb hm⟩
set_option maxHeartbeats 2000000 in
theorem fits_c (how : Int) (p s : ByteArray) (hp : p.size ≤ maxLen) (hs : s.size ≤ maxLen) (hsm : how = 3 → s.size < 4294967281) (w : World) (hsh : how = 3 → MaxLenC w) :
    Calls Tryz.prog 21 #[.int .i64 how, .string p, .string s] w fun e w' => e = .returned (.bool (fitsB how (bs p) (bs s))) ∧ Below w.heap.size w w' := by
  obtain ⟨R, hR⟩ : ∃ R, fitsB how (bs p) (bs s) = R := ⟨_, rfl⟩
  rw [hR]
  unfold fitsB at hR
  by_cases h1 : how = 1
  · rw [if_pos h1] at hR
    subst h1
    have hq : (p.toList == s.toList) = R := by rw [bsEq]; exact hR
    replace hR := Lib.hid hR
    go_enter Tryz.func21, Tryz.ntmps21
    go_wp2_with fail
    go_ret
    exact ⟨rfl, Below.refl _ _⟩
  rw [if_neg h1] at hR
  have b1 : (how == 1) = false := by simpa using h1
  by_cases h2 : how = 2
  · rw [if_pos h2] at hR
    subst h2
    have HC := Any.strings_HasPrefix Tryz.layPrefix s p w
    rw [show Lib.hasPrefix s.data.toList p.data.toList = R from hR] at HC
    replace HC := Lib.hid HC
    replace hR := Lib.hid hR
    clear h1 b1
    go_enter Tryz.func21, Tryz.ntmps21
    go_wp2_with fail
    refine HC.out.mono ?_
    rintro e w' ⟨rfl, rfl⟩
    go_wp2_with fail
    go_ret
    exact ⟨rfl, Below.refl _ _⟩
  rw [if_neg h2] at hR
  have b2 : (how == 2) = false := by simpa using h2
  by_cases h3 : how = 3
  · rw [if_pos h3] at hR
    obtain ⟨ml, hml⟩ := hsh h3
    have HC := Any.strings_Contains { Tryz.layContains with } s p ml w (hsm h3) hml
    replace hml := Lib.hid hml
    change Calls Tryz.prog 43 _ _ _ at HC
    subst h3
    rw [show Lib.contains s.data.toList p.data.toList = R from hR] at HC
    replace HC := Lib.hid HC
    replace hR := Lib.hid hR
    clear h1 b1 h2 b2 hsm
    replace hsh := Lib.hid hsh
    go_enter Tryz.func21, Tryz.ntmps21
    go_wp2_with fail
    refine HC.out.mono ?_
    rintro e w' ⟨rfl, rfl⟩
    go_wp2_with fail
    go_ret
    exact ⟨rfl, Below.refl _ _⟩
  rw [if_neg h3] at hR
  have b3 : (how == 3) = false := by simpa using h3
  by_cases h4 : how = 4
  · rw [if_pos h4] at hR
    subst h4
    have HC := glob_c p s hp hs w
    rw [hR] at HC
    replace HC := Lib.hid HC
    replace hR := Lib.hid hR
    clear h1 b1 h2 b2 h3 b3 hsm
    replace hsh := Lib.hid hsh
    go_enter Tryz.func21, Tryz.ntmps21
    go_wp2_with fail
    refine HC.out.mono ?_
    rintro e w' ⟨rfl, q, rfl⟩
    go_wp2_with fail
    go_ret
    exact ⟨rfl, below_dr (Below.refl _ _) q⟩
  rw [if_neg h4] at hR
  subst hR
  have b4 : (how == 4) = false := by simpa using h4
  clear h1 h2 h3 h4 hsm
  replace hsh := Lib.hid hsh
  go_enter Tryz.func21, Tryz.ntmps21
  go_wp2_with fail
  go_ret
  exact ⟨rfl, Below.refl _ _⟩

theorem occ_at {s p : ByteArray} {i : Nat} (h : i + p.size ≤ s.size) {b : Bool} (hb : ((s.extract i (i + p.size)).toList == p.toList) = b) : Lib.occAt (bs s) (bs p) i = b := by
  rw [bsEq] at hb
  have h1 : bs (s.extract i (i + p.size)) = ((bs s).drop i).take (bs p).length := by
    show (s.extract i (i + p.size)).data.toList = _
    rw [Lib.extract_data, bs_len, Nat.add_sub_cancel_left]
    rfl
  rw [h1] at hb
  have h2 := Lib.hasPrefix_of_take ((bs s).drop i) (bs p)
  rw [hb, decide_eq_true (by rw [List.length_drop, bs_len, bs_len]; omega), Bool.true_and] at h2
  exact h2.symm
theorem no_occ {s p : ByteArray} {i : Nat} (h : Lib.NoOcc (bs s) (bs p) i) (hi : ¬ i + p.size ≤ s.size) : Lib.contains (bs s) (bs p) = false := by
  unfold Lib.contains
  rcases Lib.index_spec (bs s) (bs p) with ⟨e, _⟩ | ⟨j, e, hj, ho, _⟩
  · rw [e]; rfl
  · have h1 : ¬ j < i := fun hji => by rw [h j hji] at ho; cases ho
    have h2 := Lib.index_room (bs s) (bs p) (by rw [e]; omega)
    rw [e, bs_len, bs_len] at h2
    omega

set_option maxHeartbeats 2000000 in
set_option maxRecDepth 100000 in
theorem rfits_c (how : Int) (p s : ByteArray) (hp : p.size ≤ 140737488355327) (hs : s.size ≤ 140737488355327) (w : World) :
    Calls Tryz.prog 51 #[.int .i64 how, .string p, .string s] w fun e w' => e = .returned (.bool (fitsB how (bs p) (bs s))) ∧ Below w.heap.size w w' := by
  obtain ⟨R, hR⟩ : ∃ R, fitsB how (bs p) (bs s) = R := ⟨_, rfl⟩
  rw [hR]
  unfold fitsB at hR
  by_cases h1 : how = 1
  · rw [if_pos h1] at hR
    subst h1
    have hq : (p.toList == s.toList) = R := by rw [bsEq]; exact hR
    replace hR := Lib.hid hR
    go_enter Tryz.func51, Tryz.ntmps51
    go_wp2_with fail
    go_ret
    exact ⟨rfl, Below.refl _ _⟩
  rw [if_neg h1] at hR
  have b1 : (how == 1) = false := by simpa using h1
  by_cases h2 : how = 2
  · rw [if_pos h2] at hR
    subst h2
    have hq : (decide (p.size ≤ s.size) && ((s.extract 0 p.size).toList == p.toList)) = R := by
      rw [Lib.hasPrefix_raw]
      exact hR
    replace hR := Lib.hid hR
    clear h1 b1
    by_cases hle : p.size ≤ s.size
    · have hle1 : (p.size : Int) ≤ (s.size : Int) := by omega
      rw [decide_eq_true hle, Bool.true_and] at hq
      go_enter Tryz.func51, Tryz.ntmps51
      go_wp2_with fail
      go_ret
      exact ⟨rfl, Below.refl _ _⟩
    · have hle1 : ¬ (p.size : Int) ≤ (s.size : Int) := by omega
      rw [decide_eq_false hle, Bool.false_and] at hq
      subst hq
      go_enter Tryz.func51, Tryz.ntmps51
      go_wp2_with fail
      go_ret
      exact ⟨rfl, Below.refl _ _⟩
  rw [if_neg h2] at hR
  have b2 : (how == 2) = false := by simpa using h2
  by_cases h3 : how = 3
  · rw [if_pos h3] at hR
    subst h3
    clear h1 b1 h2 b2
    replace hR := Lib.hid hR
    go_enter Tryz.func51, Tryz.ntmps51
    go_wp2_with fail
    go_loop [7] (fun vi => ∃ i : Nat, vi = .int .i64 i ∧ i ≤ s.size + 1 ∧ Hid (Lib.NoOcc (bs s) (bs p) i)) (fun vi => s.size + 1 - (intOf vi).toNat)
    case atStart => exact ⟨0, rfl, Nat.zero_le _, Lib.NoOcc.zero _ _⟩
    case round =>
      obtain ⟨i, rfl, hin, HN⟩ := hrel
      by_cases hle : i + p.size ≤ s.size
      · have hle1 : (i : Int) + (p.size : Int) ≤ (s.size : Int) := by omega
        have hi0 : (0 : Int) ≤ (i : Int) := by omega
        have hi1 : (i : Int) ≤ (i : Int) + (p.size : Int) := by omega
        have hi2 : ((i : Int) + (p.size : Int)).toNat = i + p.size := by omega
        obtain ⟨b, hb⟩ : ∃ b, ((s.extract i (i + p.size)).toList == p.toList) = b := ⟨_, rfl⟩
        have HO := Lib.hid (occ_at hle hb)
        cases b with
        | true =>
          have hF : R = true := by
            rw [← hR.out]
            unfold Lib.contains
            rw [Lib.index_hit HN.out (by rw [bs_len]; omega) HO.out]
            exact decide_eq_true (by omega)
          have HF := Lib.hid hF
          clear hF
          go_wp2_with fail
          go_ret
          exact ⟨by rw [HF.out]; rfl, Below.refl _ _⟩
        | false =>
          have HN2 : Hid (Lib.NoOcc (bs s) (bs p) (i + 1)) := fun j hj => by
            rcases Nat.lt_succ_iff_lt_or_eq.1 hj with h | h
            · exact HN.out j h
            · subst h; exact HO.out
          go_wp2_with fail
          go_round
          case rel => exact ⟨i + 1, by go_num, by omega, HN2⟩
          case measure => simp [intOf]; omega
      · have hle1 : ¬ (i : Int) + (p.size : Int) ≤ (s.size : Int) := by omega
        have HF : Hid (R = false) := by
          rw [← hR.out]
          exact no_occ HN.out hle
        go_wp2_with fail
        go_ret
        exact ⟨by rw [HF.out]; rfl, Below.refl _ _⟩
  rw [if_neg h3] at hR
  have b3 : (how == 3) = false := by simpa using h3
  by_cases h4 : how = 4
  · rw [if_pos h4] at hR
    subst h4
    have HC := rglob_c p s (Nat.le_trans hp (by decide)) hs w
    rw [hR] at HC
    replace HC := Lib.hid HC
    replace hR := Lib.hid hR
    clear h1 b1 h2 b2 h3 b3
    go_enter Tryz.func51, Tryz.ntmps51
    go_wp2_with fail
    refine HC.out.mono ?_
    rintro e w' ⟨rfl, hb⟩
    replace hb := Lib.hid hb
    go_wp2_with fail
    go_ret
    exact ⟨rfl, hb.out⟩
  rw [if_neg h4] at hR
  subst hR
  have b4 : (how == 4) = false := by simpa using h4
  clear h1 h2 h3 h4
  go_enter Tryz.func51, Tryz.ntmps51
  go_wp2_with fail
  go_ret
  exact ⟨rfl, Below.refl _ _⟩
end Go.Proofs.YtnplmembdfklcaaGreatDoor
