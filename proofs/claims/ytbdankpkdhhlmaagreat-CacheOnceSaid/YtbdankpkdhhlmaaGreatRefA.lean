/-
  The document's bytes and runs of bytes: the contracts. Helper text; the conditions are those typed.
-/
import Derived.Test.YtbdankpkdhhlmaaGreatWalkC
import Derived.Test.YtbdankpkdhhlmaaGreatOrd2
namespace Go.Proofs.YtbdankpkdhhlmaaGreat
set_option linter.unusedVariables false
set_option linter.unusedSimpArgs false
open Go.RowKit

theorem rdigit_c (c : UInt8) (w : World) : Calls Tryz.prog 127 #[.int .u8 (c.toNat : Int)] w fun e w' => e = .returned (.bool (dig c)) ∧ w = w' := by
  unfold dig
  generalize c.toNat = n
  by_cases h1 : 48 ≤ n
  · have h1' : (48 : Int) ≤ (n : Int) := by omega
    by_cases h2 : n ≤ 57
    · have h2' : (n : Int) ≤ 57 := by omega
      rw [decide_eq_true h1, decide_eq_true h2]
      go_enter Tryz.func127, Tryz.ntmps127
      go_wp2
      go_ret
      exact ⟨rfl, rfl⟩
    · have h2' : ¬ (n : Int) ≤ 57 := by omega
      rw [decide_eq_true h1, decide_eq_false h2]
      go_enter Tryz.func127, Tryz.ntmps127
      go_wp2
      go_ret
      exact ⟨rfl, rfl⟩
  · have h1' : ¬ (48 : Int) ≤ (n : Int) := by omega
    rw [decide_eq_false h1]
    go_enter Tryz.func127, Tryz.ntmps127
    go_wp2
    go_ret
    exact ⟨rfl, rfl⟩

theorem rletter_c (c : UInt8) (w : World) : Calls Tryz.prog 126 #[.int .u8 (c.toNat : Int)] w fun e w' => e = .returned (.bool (lett c)) ∧ w = w' := by
  unfold lett
  generalize c.toNat = n
  by_cases h1 : 97 ≤ n
  · have h1' : (97 : Int) ≤ (n : Int) := by omega
    by_cases h2 : n ≤ 122
    · have h2' : (n : Int) ≤ 122 := by omega
      rw [decide_eq_true h1, decide_eq_true h2]
      go_enter Tryz.func126, Tryz.ntmps126
      go_wp2
      go_ret
      exact ⟨rfl, rfl⟩
    · have h2' : ¬ (n : Int) ≤ 122 := by omega
      have h3' : (65 : Int) ≤ (n : Int) := by omega
      have h4' : ¬ (n : Int) ≤ 90 := by omega
      rw [decide_eq_true h1, decide_eq_false h2, decide_eq_true (show 65 ≤ n by omega), decide_eq_false (show ¬ n ≤ 90 by omega)]
      go_enter Tryz.func126, Tryz.ntmps126
      go_wp2
      go_ret
      exact ⟨rfl, rfl⟩
  · have h1' : ¬ (97 : Int) ≤ (n : Int) := by omega
    by_cases h3 : 65 ≤ n
    · have h3' : (65 : Int) ≤ (n : Int) := by omega
      by_cases h4 : n ≤ 90
      · have h4' : (n : Int) ≤ 90 := by omega
        rw [decide_eq_false h1, decide_eq_true h3, decide_eq_true h4]
        go_enter Tryz.func126, Tryz.ntmps126
        go_wp2
        go_ret
        exact ⟨rfl, rfl⟩
      · have h4' : ¬ (n : Int) ≤ 90 := by omega
        rw [decide_eq_false h1, decide_eq_true h3, decide_eq_false h4]
        go_enter Tryz.func126, Tryz.ntmps126
        go_wp2
        go_ret
        exact ⟨rfl, rfl⟩
    · have h3' : ¬ (65 : Int) ≤ (n : Int) := by omega
      rw [decide_eq_false h1, decide_eq_false h3]
      go_enter Tryz.func126, Tryz.ntmps126
      go_wp2
      go_ret
      exact ⟨rfl, rfl⟩


theorem u8_ne {a b : UInt8} : a ≠ b ↔ ((a.toNat : Int) == (b.toNat : Int)) = false := by
  rw [Ne, ← UInt8.toNat_inj]
  simp
  omega
theorem u8_eq {a b : UInt8} : a = b ↔ ((a.toNat : Int) == (b.toNat : Int)) = true := by
  rw [← UInt8.toNat_inj]
  simp
  omega

theorem in_c (c : UInt8) (s : ByteArray) (hs : s.size ≤ maxLen) (w : World) : Calls Tryz.prog 117 #[.int .u8 (c.toNat : Int), .string s] w fun e w' => e = .returned (.bool (decide (c ∈ bs s))) ∧ w = w' := by
  unfold maxLen at hs
  generalize hr : decide (c ∈ bs s) = res
  have HR := Lib.hid hr
  clear hr
  go_enter Tryz.func117, Tryz.ntmps117
  go_wp2
  go_loopw [5] (fun vi wr => ∃ k : Nat, k ≤ s.size ∧ vi = .int .i64 k ∧ w = wr ∧ Hid (∀ j (hj : j < (bs s).length), j < k → (bs s)[j] ≠ c)) (fun vi _ => s.size - (intOf vi).toNat)
  case atStart => exact ⟨0, Nat.zero_le _, rfl, rfl, fun j _ hj => absurd hj (Nat.not_lt_zero j)⟩
  case round =>
    obtain ⟨k, hk, rfl, rfl, HK⟩ := hrel
    by_cases hlt : k < s.size
    · have hlt' : (k : Int) < (s.size : Int) := by omega
      by_cases hc : s[k] = c
      · have hB := u8_eq.1 hc
        have hm : c ∈ bs s := by
          have h2 : k < (bs s).length := by rw [bs_length]; exact hlt
          have h1 : (bs s)[k] = c := hc
          exact h1 ▸ List.getElem_mem h2
        obtain rfl : res = true := by rw [← HR.out, decide_eq_true hm]
        clear hc hm HR
        go_wp2
        go_ret
        exact ⟨rfl, rfl⟩
      · have hB := u8_ne.1 hc
        have HC := Lib.hid hc
        clear hc
        go_wp2
        go_roundw
        case rel =>
          refine ⟨k + 1, by omega, by go_num, trivial, fun j hj hjk => ?_⟩
          by_cases hjk' : j < k
          · exact HK.out j hj hjk'
          · obtain rfl : j = k := by omega
            exact HC.out
        case measure => simp [intOf]; omega
    · have hge : ¬ (k : Int) < (s.size : Int) := by omega
      have hm : c ∉ bs s := by
        intro hm
        obtain ⟨j, hj, hj2⟩ := List.getElem_of_mem hm
        exact HK.out j hj (by rw [bs_length] at hj; omega) hj2
      obtain rfl : res = false := by rw [← HR.out, decide_eq_false hm]
      clear hm HR
      go_wp2
      go_ret
      exact ⟨rfl, rfl⟩

theorem in_may (c : UInt8) : decide (c ∈ bs ⟨#[46, 95, 43, 126, 94, 45, 58]⟩) = signs7.contains c := by
  rw [show bs ⟨#[46, 95, 43, 126, 94, 45, 58]⟩ = signs7 from rfl, Bool.eq_iff_iff, decide_eq_true_iff, List.contains_iff_mem]

theorem okText_val (s : ByteArray) (h : (bs s).all may = true) : okText (bs s) = (decide (1 ≤ s.size) && decide (s.size ≤ 60)) := by
  unfold okText
  rw [h, Bool.and_true, bs_length]
  congr 1
  rw [Bool.eq_iff_iff]
  simp only [Bool.not_eq_true', List.isEmpty_eq_false_iff, decide_eq_true_eq]
  rw [← List.length_pos_iff, bs_length]
  exact Iff.rfl
theorem okText_no (s : ByteArray) (k : Nat) (hk : k < s.size) (h : may s[k] = false) : okText (bs s) = false := by
  unfold okText
  have : (bs s).all may = false := by
    rw [List.all_eq_false]
    refine ⟨s[k], ?_, by rw [h]; simp⟩
    have h2 : k < (bs s).length := by rw [bs_length]; exact hk
    exact (bs_get s k hk) ▸ List.getElem_mem h2
  rw [this, Bool.and_false]
theorem okEpoch_val (s : ByteArray) (h : (bs s).all dig = true) : okEpoch (bs s) = (decide (1 ≤ s.size) && decide (s.size ≤ 9)) := by
  unfold okEpoch
  rw [h, Bool.and_true, bs_length]
  congr 1
  rw [Bool.eq_iff_iff]
  simp only [Bool.not_eq_true', List.isEmpty_eq_false_iff, decide_eq_true_eq]
  rw [← List.length_pos_iff, bs_length]
  exact Iff.rfl
theorem okEpoch_no (s : ByteArray) (k : Nat) (hk : k < s.size) (h : dig s[k] = false) : okEpoch (bs s) = false := by
  unfold okEpoch
  have : (bs s).all dig = false := by
    rw [List.all_eq_false]
    refine ⟨s[k], ?_, by rw [h]; simp⟩
    have h2 : k < (bs s).length := by rw [bs_length]; exact hk
    exact (bs_get s k hk) ▸ List.getElem_mem h2
  rw [this, Bool.and_false]
theorem all_of {p : UInt8 → Bool} {s : ByteArray} (h : ∀ j (hj : j < (bs s).length), p (bs s)[j] = true) : (bs s).all p = true := by
  rw [List.all_eq_true]
  intro x hx
  obtain ⟨j, hj, rfl⟩ := List.getElem_of_mem hx
  exact h j hj

set_option maxHeartbeats 1000000 in
theorem rmay_c (s : ByteArray) (hs : s.size ≤ maxLen) (w : World) : Calls Tryz.prog 115 #[.string s] w fun e w' => e = .returned (.bool (okText (bs s))) ∧ w = w' := by
  unfold maxLen at hs
  generalize hr : okText (bs s) = res
  have HR := Lib.hid hr
  clear hr
  go_enter Tryz.func115, Tryz.ntmps115
  go_wp2
  go_loopw [3] (fun vi wr => ∃ k : Nat, k ≤ s.size ∧ vi = .int .i64 k ∧ w = wr ∧ Hid (∀ j (hj : j < (bs s).length), j < k → may (bs s)[j] = true)) (fun vi _ => s.size - (intOf vi).toNat)
  case atStart => exact ⟨0, Nat.zero_le _, rfl, rfl, fun j _ hj => absurd hj (Nat.not_lt_zero j)⟩
  case round =>
    obtain ⟨k, hk, rfl, rfl, HK⟩ := hrel
    by_cases hlt : k < s.size
    · have hlt' : (k : Int) < (s.size : Int) := by omega
      have hL := rletter_c s[k]
      have hD := rdigit_c s[k]
      have hI := in_c s[k] ⟨#[46, 95, 43, 126, 94, 45, 58]⟩ (by decide)
      rw [in_may] at hI
      have step : may s[k] = true → ∀ j (hj : j < (bs s).length), j < k + 1 → may (bs s)[j] = true := by
        intro hm j hj hjk
        by_cases hjk' : j < k
        · exact HK.out j hj hjk'
        · obtain rfl : j = k := by omega
          exact hm
      have stop : may s[k] = false → res = false := fun h => by rw [← HR.out, okText_no s k hlt h]
      have STEP := Lib.hid step
      have STOP := Lib.hid stop
      clear step stop
      unfold may at STEP STOP
      cases hl : lett s[k] with
      | true =>
        rw [hl] at hL STEP
        cases hd : dig s[k] with
        | true =>
          rw [hd] at hD STEP
          have HD := Lib.hid hD
          have HL := Lib.hid hL
          clear hD hL hd hl hI
          go_wp2_with fail
          refine (HL.out _).mono ?_
          rintro e w' ⟨rfl, rfl⟩
          go_wp2_with fail
          refine (HD.out _).mono ?_
          rintro e w' ⟨rfl, rfl⟩
          go_wp2
          go_roundw
          case rel => exact ⟨k + 1, by omega, by go_num, trivial, STEP.out rfl⟩
          case measure => simp [intOf]; omega
        | false =>
          rw [hd] at hD STEP
          have HD := Lib.hid hD
          have HL := Lib.hid hL
          clear hD hL hd hl hI
          go_wp2_with fail
          refine (HL.out _).mono ?_
          rintro e w' ⟨rfl, rfl⟩
          go_wp2_with fail
          refine (HD.out _).mono ?_
          rintro e w' ⟨rfl, rfl⟩
          go_wp2
          go_roundw
          case rel => exact ⟨k + 1, by omega, by go_num, trivial, STEP.out rfl⟩
          case measure => simp [intOf]; omega
      | false =>
        rw [hl] at hL STEP STOP
        cases hd : dig s[k] with
        | true =>
          rw [hd] at hD STEP
          have HD := Lib.hid hD
          have HL := Lib.hid hL
          clear hD hL hd hl hI
          go_wp2_with fail
          refine (HL.out _).mono ?_
          rintro e w' ⟨rfl, rfl⟩
          go_wp2_with fail
          refine (HD.out _).mono ?_
          rintro e w' ⟨rfl, rfl⟩
          go_wp2
          go_roundw
          case rel => exact ⟨k + 1, by omega, by go_num, trivial, STEP.out rfl⟩
          case measure => simp [intOf]; omega
        | false =>
          rw [hd] at hD STEP STOP
          cases hi : signs7.contains s[k] with
          | true =>
            rw [hi] at hI STEP
            have HD := Lib.hid hD
            have HL := Lib.hid hL
            have HI := Lib.hid hI
            clear hD hL hd hl hI hi
            go_wp2_with fail
            refine (HL.out _).mono ?_
            rintro e w' ⟨rfl, rfl⟩
            go_wp2_with fail
            refine (HD.out _).mono ?_
            rintro e w' ⟨rfl, rfl⟩
            go_wp2_with fail
            refine (HI.out _).mono ?_
            rintro e w' ⟨rfl, rfl⟩
            go_wp2
            go_roundw
            case rel => exact ⟨k + 1, by omega, by go_num, trivial, STEP.out rfl⟩
            case measure => simp [intOf]; omega
          | false =>
            rw [hi] at hI STOP
            obtain rfl : res = false := STOP.out rfl
            have HD := Lib.hid hD
            have HL := Lib.hid hL
            have HI := Lib.hid hI
            clear hD hL hd hl hI hi
            go_wp2_with fail
            refine (HL.out _).mono ?_
            rintro e w' ⟨rfl, rfl⟩
            go_wp2_with fail
            refine (HD.out _).mono ?_
            rintro e w' ⟨rfl, rfl⟩
            go_wp2_with fail
            refine (HI.out _).mono ?_
            rintro e w' ⟨rfl, rfl⟩
            go_wp2
            go_ret
            exact ⟨rfl, rfl⟩
    · have hge : ¬ (k : Int) < (s.size : Int) := by omega
      have hall : (bs s).all may = true := all_of fun j hj => HK.out j hj (by rw [bs_length] at hj; omega)
      have hv := okText_val s hall
      have HV : Hid (res = (decide (1 ≤ s.size) && decide (s.size ≤ 60))) := HR.out.symm.trans hv
      clear hall hv HR
      by_cases h1 : 1 ≤ s.size
      · have h1' : (1 : Int) ≤ (s.size : Int) := by omega
        by_cases h2 : s.size ≤ 60
        · have h2' : (s.size : Int) ≤ 60 := by omega
          obtain rfl : res = true := by rw [HV.out, decide_eq_true h1, decide_eq_true h2]; rfl
          clear HV
          go_wp2
          go_ret
          exact ⟨rfl, rfl⟩
        · have h2' : ¬ (s.size : Int) ≤ 60 := by omega
          obtain rfl : res = false := by rw [HV.out, decide_eq_false h2, Bool.and_false]
          clear HV
          go_wp2
          go_ret
          exact ⟨rfl, rfl⟩
      · have h1' : ¬ (1 : Int) ≤ (s.size : Int) := by omega
        obtain rfl : res = false := by rw [HV.out, decide_eq_false h1, Bool.false_and]
        clear HV
        go_wp2
        go_ret
        exact ⟨rfl, rfl⟩

theorem digits_c (s : ByteArray) (hs : s.size ≤ maxLen) (w : World) : Calls Tryz.prog 116 #[.string s] w fun e w' => e = .returned (.bool (okEpoch (bs s))) ∧ w = w' := by
  unfold maxLen at hs
  generalize hr : okEpoch (bs s) = res
  have HR := Lib.hid hr
  clear hr
  go_enter Tryz.func116, Tryz.ntmps116
  go_wp2
  go_loopw [3] (fun vi wr => ∃ k : Nat, k ≤ s.size ∧ vi = .int .i64 k ∧ w = wr ∧ Hid (∀ j (hj : j < (bs s).length), j < k → dig (bs s)[j] = true)) (fun vi _ => s.size - (intOf vi).toNat)
  case atStart => exact ⟨0, Nat.zero_le _, rfl, rfl, fun j _ hj => absurd hj (Nat.not_lt_zero j)⟩
  case round =>
    obtain ⟨k, hk, rfl, rfl, HK⟩ := hrel
    by_cases hlt : k < s.size
    · have hlt' : (k : Int) < (s.size : Int) := by omega
      have hD := rdigit_c s[k]
      cases hd : dig s[k] with
      | true =>
        rw [hd] at hD
        have HD := Lib.hid hD
        have HG := Lib.hid hd
        clear hD hd
        go_wp2_with fail
        refine (HD.out _).mono ?_
        rintro e w' ⟨rfl, rfl⟩
        go_wp2
        go_roundw
        case rel =>
          refine ⟨k + 1, by omega, by go_num, trivial, fun j hj hjk => ?_⟩
          by_cases hjk' : j < k
          · exact HK.out j hj hjk'
          · obtain rfl : j = k := by omega
            exact HG.out
        case measure => simp [intOf]; omega
      | false =>
        rw [hd] at hD
        obtain rfl : res = false := by rw [← HR.out, okEpoch_no s k hlt hd]
        have HD := Lib.hid hD
        clear hD hd
        go_wp2_with fail
        refine (HD.out _).mono ?_
        rintro e w' ⟨rfl, rfl⟩
        go_wp2
        go_ret
        exact ⟨rfl, rfl⟩
    · have hge : ¬ (k : Int) < (s.size : Int) := by omega
      have hall : (bs s).all dig = true := all_of fun j hj => HK.out j hj (by rw [bs_length] at hj; omega)
      have hv := okEpoch_val s hall
      have HV : Hid (res = (decide (1 ≤ s.size) && decide (s.size ≤ 9))) := HR.out.symm.trans hv
      clear hall hv HR
      by_cases h1 : 1 ≤ s.size
      · have h1' : (1 : Int) ≤ (s.size : Int) := by omega
        by_cases h2 : s.size ≤ 9
        · have h2' : (s.size : Int) ≤ 9 := by omega
          obtain rfl : res = true := by rw [HV.out, decide_eq_true h1, decide_eq_true h2]; rfl
          clear HV
          go_wp2
          go_ret
          exact ⟨rfl, rfl⟩
        · have h2' : ¬ (s.size : Int) ≤ 9 := by omega
          obtain rfl : res = false := by rw [HV.out, decide_eq_false h2, Bool.and_false]
          clear HV
          go_wp2
          go_ret
          exact ⟨rfl, rfl⟩
      · have h1' : ¬ (1 : Int) ≤ (s.size : Int) := by omega
        obtain rfl : res = false := by rw [HV.out, decide_eq_false h1, Bool.false_and]
        clear HV
        go_wp2
        go_ret
        exact ⟨rfl, rfl⟩
end Go.Proofs.YtbdankpkdhhlmaaGreat
