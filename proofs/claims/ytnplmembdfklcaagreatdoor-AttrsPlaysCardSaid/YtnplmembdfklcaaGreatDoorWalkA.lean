/-
  Globs: the program's walk. Helper text; the conditions are those typed.
-/
import Derived.Test.YtnplmembdfklcaaGreatDoorShelf
import Derived.Test.YtnplmembdfklcaaGreatDoorGlobLaw
import Derived.Test.YtnplmembdfklcaaGreatDoorMem
import Derived.StillTactics
import Derived.StillTailTactics
import Derived.Deep.QuietTactic
import Derived.BigQuiet
import Derived.IntWalk
import Derived.Deep.LoopGhost
import Derived.Deep.Cut
import Derived.Deep.CutRange
import Derived.Lib.Hide
namespace Go.Proofs.YtnplmembdfklcaaGreatDoor
set_option linter.unusedVariables false
set_option linter.unusedSimpArgs false
open Go.RowKit

theorem bs_get (s : ByteArray) (i : Nat) (h : i < s.size) (h' : i < (bs s).length) : (bs s)[i] = s[i] := rfl
theorem trimL_nil (l : List UInt8) (c : UInt8) : Lib.trimLeftB l c = [] ↔ l.all (· == c) = true := by
  induction l with
  | nil => simp [Lib.trimLeftB]
  | cons a l ih =>
    unfold Lib.trimLeftB at ih ⊢
    by_cases h : a = c
    · subst h
      simpa using ih
    · simp [h]
theorem dw_all (l : List UInt8) (c : UInt8) (h : (l.dropWhile (· == c)).all (· == c) = true) : l.all (· == c) = true := by
  induction l with
  | nil => rfl
  | cons a l ih =>
    by_cases e : a = c
    · subst e
      rw [List.all_cons, beq_self_eq_true, Bool.true_and]
      refine ih ?_
      simpa using h
    · rw [List.dropWhile_cons, if_neg (by simpa using e), List.all_cons] at h
      simp [e] at h
theorem dw_nil (l : List UInt8) (c : UInt8) (h : l.all (· == c) = true) : l.dropWhile (· == c) = [] := (trimL_nil l c).2 h
theorem trim_nil (l : List UInt8) (c : UInt8) : (Lib.trimB l c).isEmpty = l.all (· == c) := by
  rw [Bool.eq_iff_iff, List.isEmpty_iff]
  unfold Lib.trimB
  rw [trimL_nil]
  unfold Lib.trimRightB
  rw [List.all_reverse]
  constructor
  · intro h
    have := dw_all _ _ h
    rwa [List.all_reverse] at this
  · intro h
    rw [dw_nil _ _ (by rwa [List.all_reverse])]
    rfl

set_option maxHeartbeats 4000000 in
set_option maxRecDepth 100000 in
theorem glob_c (p s : ByteArray) (hp : p.size ≤ maxLen) (hs : s.size ≤ maxLen) (w : World) :
    Calls Tryz.prog 44 #[.string p, .string s] w fun e w' => e = .returned (.bool (G (bs p) (bs s))) ∧ ∃ q, w' = w.drewN q := by
  replace hp : p.size ≤ 9223372036854775807 := Nat.le_trans hp (by decide)
  replace hs : s.size ≤ 9223372036854775807 := Nat.le_trans hs (by decide)
  obtain ⟨R, hR⟩ : ∃ R, G (bs p) (bs s) = R := ⟨_, rfl⟩
  rw [hR]
  replace hR := Lib.hid hR
  go_enter Tryz.func44, Tryz.ntmps44
  go_wp2_with fail
  go_step3
  go_wp2_with fail
  go_step3
  go_wp2_with fail
  go_loopw [5, 6, 7, 8] (fun v5 v6 v7 v8 wr => ∃ (star : Int) (back i k q : Nat), v5 = .int .i64 star ∧ v6 = .int .i64 back ∧ v7 = .int .i64 i ∧ v8 = .int .i64 k ∧ Hid (GInv (bs p) (bs s) star back i k) ∧ wr = w.drewN q) (fun _ v6 v7 _ _ => gMu (bs p) (bs s) (intOf v6).toNat (intOf v7).toNat)
  case atStart => exact ⟨-1, 0, 0, 0, 0, rfl, rfl, rfl, rfl, GInv.start _ _, rfl⟩
  case round =>
    obtain ⟨star, back, i, k, q, rfl, rfl, rfl, rfl, HG, rfl⟩ := hrel
    have hik : i ≤ p.size ∧ k ≤ s.size ∧ back ≤ k := by
      obtain ⟨h1, h2, h3, _⟩ := HG.out
      rw [bs_len] at h1 h2
      exact ⟨h1, h2, h3⟩
    obtain ⟨hip, hks, hbk⟩ := hik
    by_cases hk : k < s.size
    · have hk1 : (k : Int) < (s.size : Int) := by omega
      have HKL : Hid (k < (bs s).length) := by rw [bs_len]; exact hk
      by_cases hi : i < p.size
      · have hi1 : (i : Int) < (p.size : Int) := by omega
        have HIL : Hid (i < (bs p).length) := by rw [bs_len]; exact hi
        by_cases h42 : (p[i]'hi) = 42
        · have t42 : (((p[i]'hi).toNat : Int) == 42) = true := by rw [h42]; rfl
          have HN := Lib.hid (HG.out.star HIL.out h42)
          have HM : Hid (gMu (bs p) (bs s) k (i + 1) < gMu (bs p) (bs s) back i) := gMu_i HIL.out hbk
          replace h42 := Lib.hid h42
          clear HG
          go_wp2_with fail
          go_roundw
          case rel => exact ⟨(i : Int), k, i + 1, k, q, rfl, rfl, by go_num, rfl, HN.out, rfl⟩
          case measure =>
            simp only [intOf, Int.toNat_natCast, show ((i : Int) + 1).toNat = i + 1 by omega]
            exact HM.out
        · have t42 : (((p[i]'hi).toNat : Int) == 42) = false := by
            rw [beq_eq_false_iff_ne]
            intro e
            exact h42 (UInt8.toNat_inj.1 (by show (p[i]'hi).toNat = 42; omega))
          have hd1 : decide (i < p.size) = true := decide_eq_true hi
          by_cases hfit : (p[i]'hi) = 63 ∨ (p[i]'hi) = (s[k]'hk)
          · have HN : Hid (GInv (bs p) (bs s) star back (i + 1) (k + 1)) := HG.out.fit HIL.out HKL.out h42 (by
              show ((p[i]'hi) == 63 || (p[i]'hi) == (s[k]'hk)) = true
              rcases hfit with h | h <;> simp [h])
            have HM : Hid (gMu (bs p) (bs s) back (i + 1) < gMu (bs p) (bs s) back i) := gMu_i HIL.out (Nat.le_refl _)
            replace h42 := Lib.hid h42
            clear HG
            by_cases h63 : (p[i]'hi) = 63
            · have t63 : (((p[i]'hi).toNat : Int) == 63) = true := by rw [h63]; rfl
              replace h63 := Lib.hid h63
              replace hfit := Lib.hid hfit
              go_wp2_with fail
              refine wp_region_quiet_lit (by kernel_rfl) (by kernel_rfl) ?_
              repeat (first | go_big_quiet_step (fail) | (simp only [t63]))
              refine wpQuiet_nil ?_
              intro _ hw'
              obtain ⟨nq, hw''⟩ := hw'
              subst hw''
              go_wp2_with fail
              go_roundw
              case rel => exact ⟨star, back, i + 1, k + 1, _, rfl, rfl, by go_num, by go_num, HN.out, rfl⟩
              case measure =>
                simp only [intOf, Int.toNat_natCast, show ((i : Int) + 1).toNat = i + 1 by omega]
                exact HM.out
            · have t63 : (((p[i]'hi).toNat : Int) == 63) = false := by
                rw [beq_eq_false_iff_ne]
                intro e
                exact h63 (UInt8.toNat_inj.1 (by show (p[i]'hi).toNat = 63; omega))
              have tsk : (((p[i]'hi).toNat : Int) == ((s[k]'hk).toNat : Int)) = true := by
                rcases hfit with h | h
                · exact absurd h h63
                · rw [h]; simp
              replace h63 := Lib.hid h63
              replace hfit := Lib.hid hfit
              go_wp2_with fail
              refine wp_region_quiet_lit (by kernel_rfl) (by kernel_rfl) ?_
              repeat (first | go_big_quiet_step (fail) | (simp only [t63, tsk]))
              refine wpQuiet_nil ?_
              intro _ hw'
              obtain ⟨nq, hw''⟩ := hw'
              subst hw''
              go_wp2_with fail
              go_roundw
              case rel => exact ⟨star, back, i + 1, k + 1, _, rfl, rfl, by go_num, by go_num, HN.out, rfl⟩
              case measure =>
                simp only [intOf, Int.toNat_natCast, show ((i : Int) + 1).toNat = i + 1 by omega]
                exact HM.out
          · have hmis : misfit (bs p) (bs s) i k := fun hk' hi' => ⟨h42, by
              show ((p[i]'hi) == 63 || (p[i]'hi) == (s[k]'hk)) = false
              rw [Bool.or_eq_false_iff]
              exact ⟨beq_eq_false_iff_ne.2 (fun h => hfit (.inl h)), beq_eq_false_iff_ne.2 (fun h => hfit (.inr h))⟩⟩
            have h63 : (p[i]'hi) ≠ 63 := fun h => hfit (.inl h)
            have hsk : (p[i]'hi) ≠ (s[k]'hk) := fun h => hfit (.inr h)
            have t63 : (((p[i]'hi).toNat : Int) == 63) = false := by
              rw [beq_eq_false_iff_ne]
              intro e
              exact h63 (UInt8.toNat_inj.1 (by show (p[i]'hi).toNat = 63; omega))
            have tsk : (((p[i]'hi).toNat : Int) == ((s[k]'hk).toNat : Int)) = false := by
              rw [beq_eq_false_iff_ne]
              intro e
              exact hsk (UInt8.toNat_inj.1 (by omega))
            replace h42 := Lib.hid h42
            replace h63 := Lib.hid h63
            replace hsk := Lib.hid hsk
            replace hfit := Lib.hid hfit
            by_cases hst : star < 0
            · have hs1 : star = -1 := by
                obtain ⟨_, _, _, h4⟩ := HG.out
                rcases h4 with ⟨e, _⟩ | ⟨st, m, t, e, _⟩
                · exact e
                · omega
              subst hs1
              have HR : Hid (R = false) := by
                rw [← hR.out]
                exact HG.out.none HKL.out hmis
              replace hmis := Lib.hid hmis
              clear hst HG
              go_wp2_with fail
              refine wp_region_quiet_lit (by kernel_rfl) (by kernel_rfl) ?_
              repeat (first | go_big_quiet_step (fail) | (simp only [t63, tsk]))
              refine wpQuiet_nil ?_
              intro _ hw'
              obtain ⟨nq, hw''⟩ := hw'
              subst hw''
              go_wp2_with fail
              try rw [Exit.noGoto_ret]
              go_ret
              exact ⟨by rw [HR.out]; rfl, _, rfl⟩
            · obtain ⟨st, rfl⟩ : ∃ st : Nat, star = (st : Int) := ⟨star.toNat, by omega⟩
              obtain ⟨hN, hstp, hbs⟩ := HG.out.next HKL.out hmis
              have HN := Lib.hid hN
              have HM : Hid (gMu (bs p) (bs s) (back + 1) (st + 1) < gMu (bs p) (bs s) back i) := gMu_back hbs
              have hst2 : (st : Int) < (p.size : Int) := by rw [bs_len] at hstp; omega
              have hb2 : (back : Int) < (s.size : Int) := by rw [bs_len] at hbs; omega
              replace hmis := Lib.hid hmis
              clear hN hstp hbs HG
              go_wp2_with fail
              refine wp_region_quiet_lit (by kernel_rfl) (by kernel_rfl) ?_
              repeat (first | go_big_quiet_step (fail) | (simp only [t63, tsk]))
              refine wpQuiet_nil ?_
              intro _ hw'
              obtain ⟨nq, hw''⟩ := hw'
              subst hw''
              go_wp2_with fail
              go_roundw
              case rel => exact ⟨(st : Int), back + 1, st + 1, back + 1, _, rfl, by go_num, by go_num, by go_num, HN.out, rfl⟩
              case measure =>
                simp only [intOf, show ((st : Int) + 1).toNat = st + 1 by omega, show ((back : Int) + 1).toNat = back + 1 by omega, Int.toNat_natCast]
                exact HM.out
      · have hi1 : ¬ (i : Int) < (p.size : Int) := by omega
        have hmis : misfit (bs p) (bs s) i k := fun hk' hi' => absurd hi' (by rw [bs_len]; exact hi)
        by_cases hst : star < 0
        · have hs1 : star = -1 := by
            obtain ⟨_, _, _, h4⟩ := HG.out
            rcases h4 with ⟨e, _⟩ | ⟨st, m, t, e, _⟩
            · exact e
            · omega
          subst hs1
          have HR : Hid (R = false) := by
            rw [← hR.out]
            exact HG.out.none HKL.out hmis
          replace hmis := Lib.hid hmis
          have hdi : decide (i < p.size) = false := decide_eq_false hi
          clear hst HG
          go_wp2_with fail
          go_quiet (fail)
          go_wp2_with fail
          try rw [Exit.noGoto_ret]
          go_ret
          exact ⟨by rw [HR.out]; rfl, _, rfl⟩
        · obtain ⟨st, rfl⟩ : ∃ st : Nat, star = (st : Int) := ⟨star.toNat, by omega⟩
          obtain ⟨hN, hstp, hbs⟩ := HG.out.next HKL.out hmis
          have HN := Lib.hid hN
          have HM : Hid (gMu (bs p) (bs s) (back + 1) (st + 1) < gMu (bs p) (bs s) back i) := gMu_back hbs
          have hst2 : (st : Int) < (p.size : Int) := by rw [bs_len] at hstp; omega
          have hb2 : (back : Int) < (s.size : Int) := by rw [bs_len] at hbs; omega
          replace hmis := Lib.hid hmis
          have hdi : decide (i < p.size) = false := decide_eq_false hi
          clear hN hstp hbs HG
          go_wp2_with fail
          go_quiet (fail)
          go_wp2_with fail
          go_roundw
          case rel => exact ⟨(st : Int), back + 1, st + 1, back + 1, _, rfl, by go_num, by go_num, by go_num, HN.out, rfl⟩
          case measure =>
            simp only [intOf, show ((st : Int) + 1).toNat = st + 1 by omega, show ((back : Int) + 1).toNat = back + 1 by omega, Int.toNat_natCast]
            exact HM.out
    · have hk1 : ¬ (k : Int) < (s.size : Int) := by omega
      obtain rfl : k = s.size := by omega
      have HF : Hid (R = (((bs p).drop i).all (· == 42))) := by
        rw [← hR.out]
        have := HG.out
        rw [← bs_len] at this
        exact this.fin
      clear HG
      have hx : p.extract i p.size = ⟨((bs p).drop i).toArray⟩ := Lib.extract_from p i
      have HT : Hid (∀ w, Calls Tryz.prog 70 #[.string (p.extract i p.size), .string ⟨#[42]⟩] w fun e w' => e = .returned (.string ⟨(Lib.trimB ((bs p).drop i) 42).toArray⟩) ∧ (w' = w ∨ w' = w.drew)) := fun w => by
        have := Any.strings_Trim_one Tryz.layTrim (p.extract i p.size) 42 (by decide) w (Nat.le_trans (show (p.extract i p.size).size ≤ p.size by rw [hx, Lib.size_mk, List.length_drop, bs_len]; omega) hp)
        rw [hx] at this ⊢
        exact this
      replace hx := Lib.hid hx
      go_wp2_with fail
      refine (HT.out _).mono ?_
      rintro e w' ⟨rfl, hw⟩
      obtain ⟨q2, rfl⟩ : ∃ q2, w' = w.drewN q2 := by
        rcases hw with rfl | rfl
        · exact ⟨q, rfl⟩
        · exact ⟨q + 1, rfl⟩
      clear hw
      go_wp2_with fail
      try rw [Exit.noGoto_ret]
      go_ret
      exact ⟨by rw [HF.out, ← trim_nil]; rfl, _, rfl⟩
end Go.Proofs.YtnplmembdfklcaaGreatDoor
