/-
  What does not matter, runs, weights, as the document has them: the contracts. Helper text; the conditions are those typed.
-/
import Derived.Test.YtgggbjkgpjcklaaDoorRefB
namespace Go.Proofs.YtgggbjkgpjcklaaDoor
set_option linter.unusedVariables false
set_option linter.unusedSimpArgs false
open Go.RowKit

theorem skip_yes {s : ByteArray} (h : 0 < s.size) (hc : odd s[0] = true) : skip (bs s) = skip (bs (s.extract 1 s.size)) := by
  rw [bs_tail1, bs_cons0 h]
  unfold skip
  rw [List.dropWhile_cons, if_pos hc]
  rfl
theorem skip_no {s : ByteArray} (h : 0 < s.size) (hc : odd s[0] = false) : skip (bs s) = bs s := by
  rw [bs_cons0 h]
  unfold skip
  rw [List.dropWhile_cons, if_neg (by rw [hc]; simp)]
theorem skip_nil {s : ByteArray} (h : s.size = 0) : skip (bs s) = bs s := by
  rw [bs_nil.2 h]
  rfl

set_option maxHeartbeats 1000000 in
theorem skipped_c (s T : ByteArray) (hT : bs T = skip (bs s)) (hs : s.size ≤ maxLen) (w : World) : Calls Tryd.prog 67 #[.string s] w fun e w' => e = .returned (.string T) ∧ w = w' := by
  unfold maxLen at hs
  have HT := Lib.hid hT
  clear hT
  go_enter Tryd.func67, Tryd.ntmps67
  go_wp2
  go_loopw [0] (fun v wr => ∃ t : ByteArray, v = .string t ∧ t.size ≤ 9223372036854775807 ∧ w = wr ∧ Hid (bs T = skip (bs t))) (fun v _ => strLen v)
  case atStart => exact ⟨s, rfl, hs, rfl, HT⟩
  case round =>
    obtain ⟨t, rfl, ht, rfl, HK⟩ := hrel
    clear HT
    by_cases hp : 0 < t.size
    · have hp' : (0 : Int) < (t.size : Int) := by omega
      have i1 : (1 : Int) ≤ (t.size : Int) := by omega
      have hL := rletter_c t[0]
      have hD := rdigit_c t[0]
      have go_on : odd t[0] = true → bs T = skip (bs (t.extract 1 t.size)) := fun h => HK.out.trans (skip_yes hp h)
      have stop : odd t[0] = false → T = t := fun h => bs_ext (HK.out.trans (skip_no hp h))
      have sz := size_tail t 1
      obtain ⟨t2, e2⟩ : ∃ t2, t.extract 1 t.size = t2 := ⟨_, rfl⟩
      rw [e2] at go_on sz
      have GO := Lib.hid go_on
      have STOP := Lib.hid stop
      have SZ := Lib.hid sz
      clear go_on stop sz HK
      unfold odd at GO STOP
      have H126 : Hid ((t[0] == 126) = ((t[0].toNat : Int) == 126)) := by
        rw [Hid, Bool.eq_iff_iff, beq_iff_eq]
        exact u8_eq
      have H94 : Hid ((t[0] == 94) = ((t[0].toNat : Int) == 94)) := by
        rw [Hid, Bool.eq_iff_iff, beq_iff_eq]
        exact u8_eq
      rw [H126.out, H94.out] at GO STOP
      clear H126 H94
      cases hl : lett t[0] with
      | true =>
        rw [hl] at hL STOP GO
        cases hd : dig t[0] with
        | true =>
          rw [hd] at hD STOP GO
          have HL := Lib.hid hL
          have HD := Lib.hid hD
          clear hL hD hl hd
          obtain rfl : T = t := STOP.out rfl
          clear STOP GO
          go_wp2_with fail
          refine (HL.out _).mono ?_
          rintro e w' ⟨rfl, rfl⟩
          go_wp2_with fail
          refine (HD.out _).mono ?_
          rintro e w' ⟨rfl, rfl⟩
          go_wp2
          go_ret
          exact ⟨rfl, rfl⟩
        | false =>
          rw [hd] at hD STOP GO
          have HL := Lib.hid hL
          have HD := Lib.hid hD
          clear hL hD hl hd
          obtain rfl : T = t := STOP.out rfl
          clear STOP GO
          go_wp2_with fail
          refine (HL.out _).mono ?_
          rintro e w' ⟨rfl, rfl⟩
          go_wp2_with fail
          refine (HD.out _).mono ?_
          rintro e w' ⟨rfl, rfl⟩
          go_wp2
          go_ret
          exact ⟨rfl, rfl⟩
      | false =>
        rw [hl] at hL STOP GO
        cases hd : dig t[0] with
        | true =>
          rw [hd] at hD STOP GO
          have HL := Lib.hid hL
          have HD := Lib.hid hD
          clear hL hD hl hd
          obtain rfl : T = t := STOP.out rfl
          clear STOP GO
          go_wp2_with fail
          refine (HL.out _).mono ?_
          rintro e w' ⟨rfl, rfl⟩
          go_wp2_with fail
          refine (HD.out _).mono ?_
          rintro e w' ⟨rfl, rfl⟩
          go_wp2
          go_ret
          exact ⟨rfl, rfl⟩
        | false =>
          rw [hd] at hD STOP GO
          have HL := Lib.hid hL
          have HD := Lib.hid hD
          clear hL hD hl hd
          cases h1 : ((t[0].toNat : Int) == 126) with
          | true =>
            rw [h1] at STOP GO
            obtain rfl : T = t := STOP.out rfl
            clear STOP GO
            go_wp2_with fail
            refine (HL.out _).mono ?_
            rintro e w' ⟨rfl, rfl⟩
            go_wp2_with fail
            refine (HD.out _).mono ?_
            rintro e w' ⟨rfl, rfl⟩
            go_wp2
            go_ret
            exact ⟨rfl, rfl⟩
          | false =>
            rw [h1] at STOP GO
            cases h2 : ((t[0].toNat : Int) == 94) with
            | true =>
              rw [h2] at STOP GO
              obtain rfl : T = t := STOP.out rfl
              clear STOP GO
              go_wp2_with fail
              refine (HL.out _).mono ?_
              rintro e w' ⟨rfl, rfl⟩
              go_wp2_with fail
              refine (HD.out _).mono ?_
              rintro e w' ⟨rfl, rfl⟩
              go_wp2
              go_ret
              exact ⟨rfl, rfl⟩
            | false =>
              rw [h2] at STOP GO
              have HG := Lib.hid (GO.out rfl)
              clear STOP GO
              go_wp2_with fail
              refine (HL.out _).mono ?_
              rintro e w' ⟨rfl, rfl⟩
              go_wp2_with fail
              refine (HD.out _).mono ?_
              rintro e w' ⟨rfl, rfl⟩
              go_wp2
              go_roundw
              case rel => exact ⟨t2, rfl, by have := SZ.out; omega, trivial, HG⟩
              case measure => have := SZ.out; simp only [strLen]; omega
    · have hp' : ¬ (0 : Int) < (t.size : Int) := by omega
      obtain rfl : T = t := bs_ext (HK.out.trans (skip_nil (by omega)))
      clear HK
      go_wp2
      go_ret
      exact ⟨rfl, rfl⟩

set_option maxHeartbeats 1000000 in
theorem run_dig (s : ByteArray) (hs : s.size ≤ maxLen) (w : World) : Calls Tryd.prog 66 #[.string s, .bool true] w fun e w' => e = .returned (.int .i64 (cnt dig (bs s) : Nat)) ∧ w = w' := by
  unfold maxLen at hs
  generalize hc : cnt dig (bs s) = N
  have HC := Lib.hid hc
  clear hc
  go_enter Tryd.func66, Tryd.ntmps66
  go_wp2
  go_loopw [5] (fun vi wr => ∃ k : Nat, k ≤ s.size ∧ vi = .int .i64 k ∧ w = wr ∧ Hid (∀ j (hj : j < (bs s).length), j < k → dig (bs s)[j] = true)) (fun vi _ => s.size - (intOf vi).toNat)
  case atStart => exact ⟨0, Nat.zero_le _, rfl, rfl, fun j _ hj => absurd hj (Nat.not_lt_zero j)⟩
  case round =>
    obtain ⟨k, hk, rfl, rfl, HK⟩ := hrel
    by_cases hlt : k < s.size
    · have hlt' : (k : Int) < (s.size : Int) := by omega
      have HL := Lib.hid (rletter_c s[k])
      have HD := Lib.hid (rdigit_c s[k])
      cases hp : dig s[k] with
      | true =>
        rw [hp] at HD
        have HP := Lib.hid hp
        clear hp
        generalize lett s[k] = other at HL
        go_wp2_with fail
        refine (HL.out _).mono ?_
        rintro e w' ⟨rfl, rfl⟩
        go_wp2_with fail
        refine (HD.out _).mono ?_
        rintro e w' ⟨rfl, rfl⟩
        go_wp2
        go_roundw
        case rel =>
          refine ⟨k + 1, by omega, by go_num, trivial, fun j hj hjk => ?_⟩
          by_cases hjk' : j < k
          · exact HK.out j hj hjk'
          · obtain rfl : j = k := by omega
            exact HP.out
        case measure => simp [intOf]; omega
      | false =>
        rw [hp] at HD
        have hc : cnt dig (bs s) = k := cnt_of (by rw [bs_length]; omega) HK.out (fun _ => hp)
        obtain rfl : N = k := HC.out.symm.trans hc
        clear hp hc HC
        generalize lett s[N] = other at HL
        go_wp2_with fail
        refine (HL.out _).mono ?_
        rintro e w' ⟨rfl, rfl⟩
        go_wp2_with fail
        refine (HD.out _).mono ?_
        rintro e w' ⟨rfl, rfl⟩
        go_wp2
        go_ret
        exact ⟨rfl, rfl⟩
    · have hge : ¬ (k : Int) < (s.size : Int) := by omega
      have hc : cnt dig (bs s) = k := cnt_of (by rw [bs_length]; omega) HK.out (fun h => absurd h (by rw [bs_length]; omega))
      obtain rfl : N = k := HC.out.symm.trans hc
      clear hc HC
      go_wp2
      go_ret
      exact ⟨rfl, rfl⟩

set_option maxHeartbeats 1000000 in
theorem run_lett (s : ByteArray) (hs : s.size ≤ maxLen) (w : World) : Calls Tryd.prog 66 #[.string s, .bool false] w fun e w' => e = .returned (.int .i64 (cnt lett (bs s) : Nat)) ∧ w = w' := by
  unfold maxLen at hs
  generalize hc : cnt lett (bs s) = N
  have HC := Lib.hid hc
  clear hc
  go_enter Tryd.func66, Tryd.ntmps66
  go_wp2
  go_loopw [5] (fun vi wr => ∃ k : Nat, k ≤ s.size ∧ vi = .int .i64 k ∧ w = wr ∧ Hid (∀ j (hj : j < (bs s).length), j < k → lett (bs s)[j] = true)) (fun vi _ => s.size - (intOf vi).toNat)
  case atStart => exact ⟨0, Nat.zero_le _, rfl, rfl, fun j _ hj => absurd hj (Nat.not_lt_zero j)⟩
  case round =>
    obtain ⟨k, hk, rfl, rfl, HK⟩ := hrel
    by_cases hlt : k < s.size
    · have hlt' : (k : Int) < (s.size : Int) := by omega
      have HL := Lib.hid (rletter_c s[k])
      have HD := Lib.hid (rdigit_c s[k])
      cases hp : lett s[k] with
      | true =>
        rw [hp] at HL
        have HP := Lib.hid hp
        clear hp
        generalize dig s[k] = other at HD
        go_wp2_with fail
        refine (HL.out _).mono ?_
        rintro e w' ⟨rfl, rfl⟩
        go_wp2_with fail
        refine (HD.out _).mono ?_
        rintro e w' ⟨rfl, rfl⟩
        go_wp2
        go_roundw
        case rel =>
          refine ⟨k + 1, by omega, by go_num, trivial, fun j hj hjk => ?_⟩
          by_cases hjk' : j < k
          · exact HK.out j hj hjk'
          · obtain rfl : j = k := by omega
            exact HP.out
        case measure => simp [intOf]; omega
      | false =>
        rw [hp] at HL
        have hc : cnt lett (bs s) = k := cnt_of (by rw [bs_length]; omega) HK.out (fun _ => hp)
        obtain rfl : N = k := HC.out.symm.trans hc
        clear hp hc HC
        generalize dig s[N] = other at HD
        go_wp2_with fail
        refine (HL.out _).mono ?_
        rintro e w' ⟨rfl, rfl⟩
        go_wp2_with fail
        refine (HD.out _).mono ?_
        rintro e w' ⟨rfl, rfl⟩
        go_wp2
        go_ret
        exact ⟨rfl, rfl⟩
    · have hge : ¬ (k : Int) < (s.size : Int) := by omega
      have hc : cnt lett (bs s) = k := cnt_of (by rw [bs_length]; omega) HK.out (fun h => absurd h (by rw [bs_length]; omega))
      obtain rfl : N = k := HC.out.symm.trans hc
      clear hc HC
      go_wp2
      go_ret
      exact ⟨rfl, rfl⟩

/-- Does a text go on with a byte that is no digit? -/
def oth : List UInt8 → Bool
  | [] => false
  | c :: _ => !dig c
theorem other_c (a : ByteArray) (w : World) : Calls Tryd.prog 64 #[.string a] w fun e w' => e = .returned (.bool (oth (bs a))) ∧ w = w' := by
  by_cases h0 : a.size = 0
  · obtain rfl := bs_zero h0
    go_enter Tryd.func64, Tryd.ntmps64
    go_wp2
    go_ret
    exact ⟨rfl, rfl⟩
  · have hp : 0 < a.size := by omega
    have hB : ((a.size : Int) == 0) = false := beq_eq_false_iff_ne.2 (by omega)
    rw [bs_cons0 hp]
    have HD := Lib.hid (rdigit_c a[0])
    unfold oth
    simp only
    generalize dig a[0] = d at HD
    go_enter Tryd.func64, Tryd.ntmps64
    go_wp2_with fail
    refine (HD.out _).mono ?_
    rintro e w' ⟨rfl, rfl⟩
    go_wp2
    go_ret
    exact ⟨rfl, rfl⟩

theorem rweight_c (a : ByteArray) (w : World) : Calls Tryd.prog 65 #[.string a] w fun e w' => e = .returned (.int .i64 (weight (bs a))) ∧ w = w' := by
  generalize hT : weight (bs a) = T
  by_cases h0 : a.size = 0
  · obtain rfl := bs_zero h0
    obtain rfl : T = 0 := hT.symm
    go_enter Tryd.func65, Tryd.ntmps65
    go_wp2
    go_ret
    exact ⟨rfl, rfl⟩
  · have hp : 0 < a.size := by omega
    have hB : ((a.size : Int) == 0) = false := beq_eq_false_iff_ne.2 (by omega)
    rw [bs_cons0 hp] at hT
    simp only [weight] at hT
    have hb : (a[0].toNat : Int) < 256 := by have := a[0].toNat_lt; omega
    have hb0 : (0 : Int) ≤ (a[0].toNat : Int) := by omega
    have HD := Lib.hid (rdigit_c a[0])
    have HL := Lib.hid (rletter_c a[0])
    have HT := Lib.hid hT
    clear hT
    cases hd : dig a[0] with
    | true =>
      rw [hd] at HD
      obtain rfl : T = 0 := by rw [← HT.out, hd]; rfl
      clear hd HT
      generalize lett a[0] = l at HL
      go_enter Tryd.func65, Tryd.ntmps65
      go_wp2_with fail
      refine (HD.out _).mono ?_
      rintro e w' ⟨rfl, rfl⟩
      go_wp2_with fail
      refine (HL.out _).mono ?_
      rintro e w' ⟨rfl, rfl⟩
      go_wp2
      go_ret
      exact ⟨rfl, rfl⟩
    | false =>
      rw [hd] at HD
      by_cases h126 : a[0] = 126
      · obtain rfl : T = -1 := by rw [← HT.out, hd, if_neg (by simp), if_pos h126]
        have hB2 : ((a[0].toNat : Int) == 126) = true := u8_eq.1 h126
        clear hd HT h126
        generalize lett a[0] = l at HL
        go_enter Tryd.func65, Tryd.ntmps65
        go_wp2_with fail
        refine (HD.out _).mono ?_
        rintro e w' ⟨rfl, rfl⟩
        go_wp2_with fail
        refine (HL.out _).mono ?_
        rintro e w' ⟨rfl, rfl⟩
        go_wp2
        go_ret
        exact ⟨rfl, rfl⟩
      · have hB2 : ((a[0].toNat : Int) == 126) = false := u8_ne.1 h126
        cases hl : lett a[0] with
        | true =>
          rw [hl] at HL
          have hV : T = (a[0].toNat : Int) := by rw [← HT.out, hd, if_neg (by simp), if_neg h126, hl]; rfl
          have HV := Lib.hid hV
          clear hd HT h126 hl hV
          go_enter Tryd.func65, Tryd.ntmps65
          go_wp2_with fail
          refine (HD.out _).mono ?_
          rintro e w' ⟨rfl, rfl⟩
          go_wp2_with fail
          refine (HL.out _).mono ?_
          rintro e w' ⟨rfl, rfl⟩
          go_wp2
          go_ret
          exact ⟨by rw [HV.out]; rfl, rfl⟩
        | false =>
          rw [hl] at HL
          have hV : T = (a[0].toNat : Int) + 256 := by rw [← HT.out, hd, if_neg (by simp), if_neg h126, hl, if_neg (by simp)]; omega
          have HV := Lib.hid hV
          clear hd HT h126 hl hV
          go_enter Tryd.func65, Tryd.ntmps65
          go_wp2_with fail
          refine (HD.out _).mono ?_
          rintro e w' ⟨rfl, rfl⟩
          go_wp2_with fail
          refine (HL.out _).mono ?_
          rintro e w' ⟨rfl, rfl⟩
          go_wp2
          go_ret
          exact ⟨by rw [HV.out]; rfl, rfl⟩
end Go.Proofs.YtgggbjkgpjcklaaDoor
