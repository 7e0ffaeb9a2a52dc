/-
  Bytes and runs of bytes: digit, letter, count: the contracts. Helper text; the conditions are those typed.
-/
import Derived.Test.YtjcefgjgjhdbpaaGreatDoorRows
import Derived.Test.YtjcefgjgjhdbpaaGreatDoorEvrSpec
import Derived.WalkKit
import Derived.WalkSpells
import Derived.WalkLawsBesides
import Derived.BigQuiet
import Derived.Deep.QuietTactic
import Derived.Lib.Hide
import Derived.Lib.IndexBytes
import Derived.OwnWalk
import Derived.KernelRfl
namespace Go.Proofs.YtjcefgjgjhdbpaaGreatDoor
set_option linter.unusedVariables false
set_option linter.unusedSimpArgs false
open Go.RowKit

theorem laidOut : laidOutB Tryz.prog = true := by kernel_rfl

/-- A text's bytes. -/
abbrev bs (s : ByteArray) : List UInt8 := s.data.toList
theorem bs_length (s : ByteArray) : (bs s).length = s.size := by rw [Array.length_toList]; rfl
theorem bs_get (s : ByteArray) (k : Nat) (h : k < s.size) : (bs s)[k]'(by rw [bs_length]; exact h) = s[k] := rfl

theorem digit_c (c : UInt8) (w : World) : Calls Tryz.prog 97 #[.int .u8 (c.toNat : Int)] w fun e w' => e = .returned (.bool (dig c)) ∧ w = w' := by
  unfold dig
  generalize c.toNat = n
  by_cases h1 : 48 ≤ n
  · have h1' : (48 : Int) ≤ (n : Int) := by omega
    by_cases h2 : n ≤ 57
    · have h2' : (n : Int) ≤ 57 := by omega
      rw [decide_eq_true h1, decide_eq_true h2]
      go_enter Tryz.func97, Tryz.ntmps97
      go_wp2
      go_ret
      exact ⟨rfl, rfl⟩
    · have h2' : ¬ (n : Int) ≤ 57 := by omega
      rw [decide_eq_true h1, decide_eq_false h2]
      go_enter Tryz.func97, Tryz.ntmps97
      go_wp2
      go_ret
      exact ⟨rfl, rfl⟩
  · have h1' : ¬ (48 : Int) ≤ (n : Int) := by omega
    rw [decide_eq_false h1]
    go_enter Tryz.func97, Tryz.ntmps97
    go_wp2
    go_ret
    exact ⟨rfl, rfl⟩

theorem letter_c (c : UInt8) (w : World) : Calls Tryz.prog 98 #[.int .u8 (c.toNat : Int)] w fun e w' => e = .returned (.bool (lett c)) ∧ w = w' := by
  unfold lett
  generalize c.toNat = n
  by_cases h1 : 97 ≤ n
  · have h1' : (97 : Int) ≤ (n : Int) := by omega
    by_cases h2 : n ≤ 122
    · have h2' : (n : Int) ≤ 122 := by omega
      rw [decide_eq_true h1, decide_eq_true h2]
      go_enter Tryz.func98, Tryz.ntmps98
      go_wp2
      go_ret
      exact ⟨rfl, rfl⟩
    · have h2' : ¬ (n : Int) ≤ 122 := by omega
      have h3' : (65 : Int) ≤ (n : Int) := by omega
      have h4' : ¬ (n : Int) ≤ 90 := by omega
      rw [decide_eq_true h1, decide_eq_false h2, decide_eq_true (show 65 ≤ n by omega), decide_eq_false (show ¬ n ≤ 90 by omega)]
      go_enter Tryz.func98, Tryz.ntmps98
      go_wp2
      go_ret
      exact ⟨rfl, rfl⟩
  · have h1' : ¬ (97 : Int) ≤ (n : Int) := by omega
    by_cases h3 : 65 ≤ n
    · have h3' : (65 : Int) ≤ (n : Int) := by omega
      by_cases h4 : n ≤ 90
      · have h4' : (n : Int) ≤ 90 := by omega
        rw [decide_eq_false h1, decide_eq_true h3, decide_eq_true h4]
        go_enter Tryz.func98, Tryz.ntmps98
        go_wp2
        go_ret
        exact ⟨rfl, rfl⟩
      · have h4' : ¬ (n : Int) ≤ 90 := by omega
        rw [decide_eq_false h1, decide_eq_true h3, decide_eq_false h4]
        go_enter Tryz.func98, Tryz.ntmps98
        go_wp2
        go_ret
        exact ⟨rfl, rfl⟩
    · have h3' : ¬ (65 : Int) ≤ (n : Int) := by omega
      rw [decide_eq_false h1, decide_eq_false h3]
      go_enter Tryz.func98, Tryz.ntmps98
      go_wp2
      go_ret
      exact ⟨rfl, rfl⟩

set_option maxHeartbeats 1000000 in
/-- count, of whatever kind of bytes. -/
theorem count_any (g : Nat) (lb : Array Value) (eg : ∀ args w, (callFunc g args).run Tryz.prog w = .ok (.enter g args) w) (p : UInt8 → Bool) (s : ByteArray) (hs : s.size ≤ maxLen) (w : World)
    (hp : ∀ c : UInt8, Calls Tryz.prog g (#[.int .u8 (c.toNat : Int)] ++ lb) w fun e w' => e = .returned (.bool (p c)) ∧ w = w') :
    Calls Tryz.prog 100 #[.string s, .func (.func g) #[] lb] w fun e w' => e = .returned (.int .i64 (cnt p (bs s) : Nat)) ∧ w = w' := by
  unfold maxLen at hs
  have HP := Lib.hid hp
  clear hp
  go_enter Tryz.func100, Tryz.ntmps100
  go_wp2
  go_loopw [5] (fun vi wr => ∃ k : Nat, k ≤ s.size ∧ vi = .int .i64 k ∧ w = wr ∧ Hid (∀ j (hj : j < (bs s).length), j < k → p (bs s)[j] = true)) (fun vi _ => s.size - (intOf vi).toNat)
  case atStart => exact ⟨0, Nat.zero_le _, rfl, rfl, fun j _ hj => absurd hj (Nat.not_lt_zero j)⟩
  case round =>
    obtain ⟨k, hk, rfl, rfl, HK⟩ := hrel
    by_cases hlt : k < s.size
    · have hlt' : (k : Int) < (s.size : Int) := by omega
      by_cases hpk : p s[k] = true
      · have HPK := Lib.hid hpk
        clear hpk
        go_wp2_with fail
        refine (HP.out s[k]).mono ?_
        rintro e w' ⟨rfl, rfl⟩
        rw [HPK.out]
        go_wp2
        go_roundw
        case rel =>
          refine ⟨k + 1, by omega, by go_num, trivial, fun j hj hjk => ?_⟩
          by_cases hjk' : j < k
          · exact HK.out j hj hjk'
          · obtain rfl : j = k := by omega
            exact HPK.out
        case measure => simp [intOf]; omega
      · have hpk' : p s[k] = false := by simpa using hpk
        have HPK := Lib.hid hpk'
        clear hpk'
        clear hpk
        go_wp2_with fail
        refine (HP.out s[k]).mono ?_
        rintro e w' ⟨rfl, rfl⟩
        rw [HPK.out]
        have hc : cnt p (bs s) = k := cnt_of (by rw [bs_length]; omega) HK.out (fun _ => HPK.out)
        have HC := Lib.hid hc
        clear hc
        go_wp2
        go_ret
        exact ⟨by rw [HC.out]; rfl, rfl⟩
    · have hge : ¬ (k : Int) < (s.size : Int) := by omega
      have hc : cnt p (bs s) = k := cnt_of (by rw [bs_length]; omega) HK.out (fun h => absurd h (by rw [bs_length]; omega))
      have HC := Lib.hid hc
      clear hc
      go_wp2
      go_ret
      exact ⟨by rw [HC.out]; rfl, rfl⟩
end Go.Proofs.YtjcefgjgjhdbpaaGreatDoor
