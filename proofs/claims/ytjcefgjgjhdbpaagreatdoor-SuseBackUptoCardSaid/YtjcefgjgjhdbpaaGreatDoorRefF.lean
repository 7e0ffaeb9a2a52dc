/-
  The document's bytes and runs of bytes: the contracts. Helper text; the conditions are those typed.
  Parse, as the document has it: the contract. Helper text (printed by mk_refF.py); the conditions are those typed.
-/
import Derived.Test.YtjcefgjgjhdbpaaGreatDoorBoxes
import Derived.Test.YtjcefgjgjhdbpaaGreatDoorOrd2
namespace Go.Proofs.YtjcefgjgjhdbpaaGreatDoor
set_option linter.unusedVariables false
set_option linter.unusedSimpArgs false
open Go.RowKit

theorem rdigit_c (c : UInt8) (w : World) : Calls Tryz.prog 136 #[.int .u8 (c.toNat : Int)] w fun e w' => e = .returned (.bool (dig c)) ∧ w = w' := by
  unfold dig
  generalize c.toNat = n
  by_cases h1 : 48 ≤ n
  · have h1' : (48 : Int) ≤ (n : Int) := by omega
    by_cases h2 : n ≤ 57
    · have h2' : (n : Int) ≤ 57 := by omega
      rw [decide_eq_true h1, decide_eq_true h2]
      go_enter Tryz.func136, Tryz.ntmps136
      go_wp2
      go_ret
      exact ⟨rfl, rfl⟩
    · have h2' : ¬ (n : Int) ≤ 57 := by omega
      rw [decide_eq_true h1, decide_eq_false h2]
      go_enter Tryz.func136, Tryz.ntmps136
      go_wp2
      go_ret
      exact ⟨rfl, rfl⟩
  · have h1' : ¬ (48 : Int) ≤ (n : Int) := by omega
    rw [decide_eq_false h1]
    go_enter Tryz.func136, Tryz.ntmps136
    go_wp2
    go_ret
    exact ⟨rfl, rfl⟩

theorem rletter_c (c : UInt8) (w : World) : Calls Tryz.prog 135 #[.int .u8 (c.toNat : Int)] w fun e w' => e = .returned (.bool (lett c)) ∧ w = w' := by
  unfold lett
  generalize c.toNat = n
  by_cases h1 : 97 ≤ n
  · have h1' : (97 : Int) ≤ (n : Int) := by omega
    by_cases h2 : n ≤ 122
    · have h2' : (n : Int) ≤ 122 := by omega
      rw [decide_eq_true h1, decide_eq_true h2]
      go_enter Tryz.func135, Tryz.ntmps135
      go_wp2
      go_ret
      exact ⟨rfl, rfl⟩
    · have h2' : ¬ (n : Int) ≤ 122 := by omega
      have h3' : (65 : Int) ≤ (n : Int) := by omega
      have h4' : ¬ (n : Int) ≤ 90 := by omega
      rw [decide_eq_true h1, decide_eq_false h2, decide_eq_true (show 65 ≤ n by omega), decide_eq_false (show ¬ n ≤ 90 by omega)]
      go_enter Tryz.func135, Tryz.ntmps135
      go_wp2
      go_ret
      exact ⟨rfl, rfl⟩
  · have h1' : ¬ (97 : Int) ≤ (n : Int) := by omega
    by_cases h3 : 65 ≤ n
    · have h3' : (65 : Int) ≤ (n : Int) := by omega
      by_cases h4 : n ≤ 90
      · have h4' : (n : Int) ≤ 90 := by omega
        rw [decide_eq_false h1, decide_eq_true h3, decide_eq_true h4]
        go_enter Tryz.func135, Tryz.ntmps135
        go_wp2
        go_ret
        exact ⟨rfl, rfl⟩
      · have h4' : ¬ (n : Int) ≤ 90 := by omega
        rw [decide_eq_false h1, decide_eq_true h3, decide_eq_false h4]
        go_enter Tryz.func135, Tryz.ntmps135
        go_wp2
        go_ret
        exact ⟨rfl, rfl⟩
    · have h3' : ¬ (65 : Int) ≤ (n : Int) := by omega
      rw [decide_eq_false h1, decide_eq_false h3]
      go_enter Tryz.func135, Tryz.ntmps135
      go_wp2
      go_ret
      exact ⟨rfl, rfl⟩


theorem u8_ne {a b : UInt8} : a ≠ b ↔ ((a.toNat : Int) == (b.toNat : Int)) = false := by
  rw [Ne, ← UInt8.toNat_inj]
  simp
  omega
theorem u8_eq {a b : UInt8} : a = b ↔ ((a.toNat : Int) == (b.toNat : Int)) = true := by
  rw [← UInt8.toNat_inj]
  simp
  omega

theorem in_c (c : UInt8) (s : ByteArray) (hs : s.size ≤ maxLen) (w : World) : Calls Tryz.prog 116 #[.int .u8 (c.toNat : Int), .string s] w fun e w' => e = .returned (.bool (decide (c ∈ bs s))) ∧ w = w' := by
  unfold maxLen at hs
  generalize hr : decide (c ∈ bs s) = res
  have HR := Lib.hid hr
  clear hr
  go_enter Tryz.func116, Tryz.ntmps116
  go_wp2
  go_loopw [5] (fun vi wr => ∃ k : Nat, k ≤ s.size ∧ vi = .int .i64 k ∧ w = wr ∧ Hid (∀ j (hj : j < (bs s).length), j < k → (bs s)[j] ≠ c)) (fun vi _ => s.size - (intOf vi).toNat)
  case atStart => exact ⟨0, Nat.zero_le _, rfl, rfl, fun j _ hj => absurd hj (Nat.not_lt_zero j)⟩
  case round =>
    obtain ⟨k, hk, rfl, rfl, HK⟩ := hrel
    by_cases hlt : k < s.size
    · have hlt' : (k : Int) < (s.size : Int) := by omega
      by_cases hc : s[k] = c
      · have hB := u8_eq.1 hc
        have hm : c ∈ bs s := by
          have h2 : k < (bs s).length := by rw [bs_length]; exact hlt
          have h1 : (bs s)[k] = c := hc
          exact h1 ▸ List.getElem_mem h2
        obtain rfl : res = true := by rw [← HR.out, decide_eq_true hm]
        clear hc hm HR
        go_wp2
        go_ret
        exact ⟨rfl, rfl⟩
      · have hB := u8_ne.1 hc
        have HC := Lib.hid hc
        clear hc
        go_wp2
        go_roundw
        case rel =>
          refine ⟨k + 1, by omega, by go_num, trivial, fun j hj hjk => ?_⟩
          by_cases hjk' : j < k
          · exact HK.out j hj hjk'
          · obtain rfl : j = k := by omega
            exact HC.out
        case measure => simp [intOf]; omega
    · have hge : ¬ (k : Int) < (s.size : Int) := by omega
      have hm : c ∉ bs s := by
        intro hm
        obtain ⟨j, hj, hj2⟩ := List.getElem_of_mem hm
        exact HK.out j hj (by rw [bs_length] at hj; omega) hj2
      obtain rfl : res = false := by rw [← HR.out, decide_eq_false hm]
      clear hm HR
      go_wp2
      go_ret
      exact ⟨rfl, rfl⟩

theorem in_may (c : UInt8) : decide (c ∈ bs ⟨#[46, 95, 43, 126, 94, 45, 58]⟩) = signs7.contains c := by
  rw [show bs ⟨#[46, 95, 43, 126, 94, 45, 58]⟩ = signs7 from rfl, Bool.eq_iff_iff, decide_eq_true_iff, List.contains_iff_mem]

theorem okText_val (s : ByteArray) (h : (bs s).all may = true) : okText (bs s) = (decide (1 ≤ s.size) && decide (s.size ≤ 60)) := by
  unfold okText
  rw [h, Bool.and_true, bs_length]
  congr 1
  rw [Bool.eq_iff_iff]
  simp only [Bool.not_eq_true', List.isEmpty_eq_false_iff, decide_eq_true_eq]
  rw [← List.length_pos_iff, bs_length]
  exact Iff.rfl
theorem okText_no (s : ByteArray) (k : Nat) (hk : k < s.size) (h : may s[k] = false) : okText (bs s) = false := by
  unfold okText
  have : (bs s).all may = false := by
    rw [List.all_eq_false]
    refine ⟨s[k], ?_, by rw [h]; simp⟩
    have h2 : k < (bs s).length := by rw [bs_length]; exact hk
    exact (bs_get s k hk) ▸ List.getElem_mem h2
  rw [this, Bool.and_false]
theorem okEpoch_val (s : ByteArray) (h : (bs s).all dig = true) : okEpoch (bs s) = (decide (1 ≤ s.size) && decide (s.size ≤ 9)) := by
  unfold okEpoch
  rw [h, Bool.and_true, bs_length]
  congr 1
  rw [Bool.eq_iff_iff]
  simp only [Bool.not_eq_true', List.isEmpty_eq_false_iff, decide_eq_true_eq]
  rw [← List.length_pos_iff, bs_length]
  exact Iff.rfl
theorem okEpoch_no (s : ByteArray) (k : Nat) (hk : k < s.size) (h : dig s[k] = false) : okEpoch (bs s) = false := by
  unfold okEpoch
  have : (bs s).all dig = false := by
    rw [List.all_eq_false]
    refine ⟨s[k], ?_, by rw [h]; simp⟩
    have h2 : k < (bs s).length := by rw [bs_length]; exact hk
    exact (bs_get s k hk) ▸ List.getElem_mem h2
  rw [this, Bool.and_false]
theorem all_of {p : UInt8 → Bool} {s : ByteArray} (h : ∀ j (hj : j < (bs s).length), p (bs s)[j] = true) : (bs s).all p = true := by
  rw [List.all_eq_true]
  intro x hx
  obtain ⟨j, hj, rfl⟩ := List.getElem_of_mem hx
  exact h j hj

set_option maxHeartbeats 1000000 in
theorem rmay_c (s : ByteArray) (hs : s.size ≤ maxLen) (w : World) : Calls Tryz.prog 114 #[.string s] w fun e w' => e = .returned (.bool (okText (bs s))) ∧ w = w' := by
  unfold maxLen at hs
  generalize hr : okText (bs s) = res
  have HR := Lib.hid hr
  clear hr
  go_enter Tryz.func114, Tryz.ntmps114
  go_wp2
  go_loopw [3] (fun vi wr => ∃ k : Nat, k ≤ s.size ∧ vi = .int .i64 k ∧ w = wr ∧ Hid (∀ j (hj : j < (bs s).length), j < k → may (bs s)[j] = true)) (fun vi _ => s.size - (intOf vi).toNat)
  case atStart => exact ⟨0, Nat.zero_le _, rfl, rfl, fun j _ hj => absurd hj (Nat.not_lt_zero j)⟩
  case round =>
    obtain ⟨k, hk, rfl, rfl, HK⟩ := hrel
    by_cases hlt : k < s.size
    · have hlt' : (k : Int) < (s.size : Int) := by omega
      have hL := rletter_c s[k]
      have hD := rdigit_c s[k]
      have hI := in_c s[k] ⟨#[46, 95, 43, 126, 94, 45, 58]⟩ (by decide)
      rw [in_may] at hI
      have step : may s[k] = true → ∀ j (hj : j < (bs s).length), j < k + 1 → may (bs s)[j] = true := by
        intro hm j hj hjk
        by_cases hjk' : j < k
        · exact HK.out j hj hjk'
        · obtain rfl : j = k := by omega
          exact hm
      have stop : may s[k] = false → res = false := fun h => by rw [← HR.out, okText_no s k hlt h]
      have STEP := Lib.hid step
      have STOP := Lib.hid stop
      clear step stop
      unfold may at STEP STOP
      cases hl : lett s[k] with
      | true =>
        rw [hl] at hL STEP
        cases hd : dig s[k] with
        | true =>
          rw [hd] at hD STEP
          have HD := Lib.hid hD
          have HL := Lib.hid hL
          clear hD hL hd hl hI
          go_wp2_with fail
          refine (HL.out _).mono ?_
          rintro e w' ⟨rfl, rfl⟩
          go_wp2_with fail
          refine (HD.out _).mono ?_
          rintro e w' ⟨rfl, rfl⟩
          go_wp2
          go_roundw
          case rel => exact ⟨k + 1, by omega, by go_num, trivial, STEP.out rfl⟩
          case measure => simp [intOf]; omega
        | false =>
          rw [hd] at hD STEP
          have HD := Lib.hid hD
          have HL := Lib.hid hL
          clear hD hL hd hl hI
          go_wp2_with fail
          refine (HL.out _).mono ?_
          rintro e w' ⟨rfl, rfl⟩
          go_wp2_with fail
          refine (HD.out _).mono ?_
          rintro e w' ⟨rfl, rfl⟩
          go_wp2
          go_roundw
          case rel => exact ⟨k + 1, by omega, by go_num, trivial, STEP.out rfl⟩
          case measure => simp [intOf]; omega
      | false =>
        rw [hl] at hL STEP STOP
        cases hd : dig s[k] with
        | true =>
          rw [hd] at hD STEP
          have HD := Lib.hid hD
          have HL := Lib.hid hL
          clear hD hL hd hl hI
          go_wp2_with fail
          refine (HL.out _).mono ?_
          rintro e w' ⟨rfl, rfl⟩
          go_wp2_with fail
          refine (HD.out _).mono ?_
          rintro e w' ⟨rfl, rfl⟩
          go_wp2
          go_roundw
          case rel => exact ⟨k + 1, by omega, by go_num, trivial, STEP.out rfl⟩
          case measure => simp [intOf]; omega
        | false =>
          rw [hd] at hD STEP STOP
          cases hi : signs7.contains s[k] with
          | true =>
            rw [hi] at hI STEP
            have HD := Lib.hid hD
            have HL := Lib.hid hL
            have HI := Lib.hid hI
            clear hD hL hd hl hI hi
            go_wp2_with fail
            refine (HL.out _).mono ?_
            rintro e w' ⟨rfl, rfl⟩
            go_wp2_with fail
            refine (HD.out _).mono ?_
            rintro e w' ⟨rfl, rfl⟩
            go_wp2_with fail
            refine (HI.out _).mono ?_
            rintro e w' ⟨rfl, rfl⟩
            go_wp2
            go_roundw
            case rel => exact ⟨k + 1, by omega, by go_num, trivial, STEP.out rfl⟩
            case measure => simp [intOf]; omega
          | false =>
            rw [hi] at hI STOP
            obtain rfl : res = false := STOP.out rfl
            have HD := Lib.hid hD
            have HL := Lib.hid hL
            have HI := Lib.hid hI
            clear hD hL hd hl hI hi
            go_wp2_with fail
            refine (HL.out _).mono ?_
            rintro e w' ⟨rfl, rfl⟩
            go_wp2_with fail
            refine (HD.out _).mono ?_
            rintro e w' ⟨rfl, rfl⟩
            go_wp2_with fail
            refine (HI.out _).mono ?_
            rintro e w' ⟨rfl, rfl⟩
            go_wp2
            go_ret
            exact ⟨rfl, rfl⟩
    · have hge : ¬ (k : Int) < (s.size : Int) := by omega
      have hall : (bs s).all may = true := all_of fun j hj => HK.out j hj (by rw [bs_length] at hj; omega)
      have hv := okText_val s hall
      have HV : Hid (res = (decide (1 ≤ s.size) && decide (s.size ≤ 60))) := HR.out.symm.trans hv
      clear hall hv HR
      by_cases h1 : 1 ≤ s.size
      · have h1' : (1 : Int) ≤ (s.size : Int) := by omega
        by_cases h2 : s.size ≤ 60
        · have h2' : (s.size : Int) ≤ 60 := by omega
          obtain rfl : res = true := by rw [HV.out, decide_eq_true h1, decide_eq_true h2]; rfl
          clear HV
          go_wp2
          go_ret
          exact ⟨rfl, rfl⟩
        · have h2' : ¬ (s.size : Int) ≤ 60 := by omega
          obtain rfl : res = false := by rw [HV.out, decide_eq_false h2, Bool.and_false]
          clear HV
          go_wp2
          go_ret
          exact ⟨rfl, rfl⟩
      · have h1' : ¬ (1 : Int) ≤ (s.size : Int) := by omega
        obtain rfl : res = false := by rw [HV.out, decide_eq_false h1, Bool.false_and]
        clear HV
        go_wp2
        go_ret
        exact ⟨rfl, rfl⟩

theorem digits_c (s : ByteArray) (hs : s.size ≤ maxLen) (w : World) : Calls Tryz.prog 115 #[.string s] w fun e w' => e = .returned (.bool (okEpoch (bs s))) ∧ w = w' := by
  unfold maxLen at hs
  generalize hr : okEpoch (bs s) = res
  have HR := Lib.hid hr
  clear hr
  go_enter Tryz.func115, Tryz.ntmps115
  go_wp2
  go_loopw [3] (fun vi wr => ∃ k : Nat, k ≤ s.size ∧ vi = .int .i64 k ∧ w = wr ∧ Hid (∀ j (hj : j < (bs s).length), j < k → dig (bs s)[j] = true)) (fun vi _ => s.size - (intOf vi).toNat)
  case atStart => exact ⟨0, Nat.zero_le _, rfl, rfl, fun j _ hj => absurd hj (Nat.not_lt_zero j)⟩
  case round =>
    obtain ⟨k, hk, rfl, rfl, HK⟩ := hrel
    by_cases hlt : k < s.size
    · have hlt' : (k : Int) < (s.size : Int) := by omega
      have hD := rdigit_c s[k]
      cases hd : dig s[k] with
      | true =>
        rw [hd] at hD
        have HD := Lib.hid hD
        have HG := Lib.hid hd
        clear hD hd
        go_wp2_with fail
        refine (HD.out _).mono ?_
        rintro e w' ⟨rfl, rfl⟩
        go_wp2
        go_roundw
        case rel =>
          refine ⟨k + 1, by omega, by go_num, trivial, fun j hj hjk => ?_⟩
          by_cases hjk' : j < k
          · exact HK.out j hj hjk'
          · obtain rfl : j = k := by omega
            exact HG.out
        case measure => simp [intOf]; omega
      | false =>
        rw [hd] at hD
        obtain rfl : res = false := by rw [← HR.out, okEpoch_no s k hlt hd]
        have HD := Lib.hid hD
        clear hD hd
        go_wp2_with fail
        refine (HD.out _).mono ?_
        rintro e w' ⟨rfl, rfl⟩
        go_wp2
        go_ret
        exact ⟨rfl, rfl⟩
    · have hge : ¬ (k : Int) < (s.size : Int) := by omega
      have hall : (bs s).all dig = true := all_of fun j hj => HK.out j hj (by rw [bs_length] at hj; omega)
      have hv := okEpoch_val s hall
      have HV : Hid (res = (decide (1 ≤ s.size) && decide (s.size ≤ 9))) := HR.out.symm.trans hv
      clear hall hv HR
      by_cases h1 : 1 ≤ s.size
      · have h1' : (1 : Int) ≤ (s.size : Int) := by omega
        by_cases h2 : s.size ≤ 9
        · have h2' : (s.size : Int) ≤ 9 := by omega
          obtain rfl : res = true := by rw [HV.out, decide_eq_true h1, decide_eq_true h2]; rfl
          clear HV
          go_wp2
          go_ret
          exact ⟨rfl, rfl⟩
        · have h2' : ¬ (s.size : Int) ≤ 9 := by omega
          obtain rfl : res = false := by rw [HV.out, decide_eq_false h2, Bool.and_false]
          clear HV
          go_wp2
          go_ret
          exact ⟨rfl, rfl⟩
      · have h1' : ¬ (1 : Int) ≤ (s.size : Int) := by omega
        obtain rfl : res = false := by rw [HV.out, decide_eq_false h1, Bool.false_and]
        clear HV
        go_wp2
        go_ret
        exact ⟨rfl, rfl⟩
end Go.Proofs.YtjcefgjgjhdbpaaGreatDoor
namespace Go.Proofs.YtjcefgjgjhdbpaaGreatDoor
set_option linter.unusedVariables false
set_option linter.unusedSimpArgs false
open Go.RowKit

theorem li_at {s : ByteArray} {c : UInt8} {j : Nat} (hj : j < s.size) (hc : s[j] = c) (hn : ∀ i (hi : i < (bs s).length), j < i → (bs s)[i] ≠ c) : li c (bs s) = some j :=
  li_some.2 ⟨by rw [bs_length]; exact hj, hc, hn⟩
theorem fi_at {s : ByteArray} {c : UInt8} {j : Nat} (hj : j < s.size) (hc : s[j] = c) (hn : ∀ i (hi : i < (bs s).length), i < j → (bs s)[i] ≠ c) : fi c (bs s) = some j :=
  fi_some.2 ⟨by rw [bs_length]; exact hj, hc, hn⟩
theorem none_of {s : ByteArray} {c : UInt8} (hn : ∀ i (hi : i < (bs s).length), (bs s)[i] ≠ c) : c ∉ bs s := by
  intro hm
  obtain ⟨j, hj, e⟩ := List.getElem_of_mem hm
  exact hn j hj e
theorem Box3.set1 {W : World} {b : Nat} {x y z : ByteArray} (h : Box3 W b x y z) (y' : ByteArray) : Box3 (W.setCell ⟨b, 1, none⟩ (.string y')) b x y' z := by
  refine .of ?_
  have h := h.at_
  unfold World.setCell
  simp [Array.getElem?_modify, h]
theorem Box3.set0 {W : World} {b : Nat} {x y z : ByteArray} (h : Box3 W b x y z) (x' : ByteArray) : Box3 (W.setCell ⟨b, 0, none⟩ (.string x')) b x' y z := by
  refine .of ?_
  have h := h.at_
  unfold World.setCell
  simp [Array.getElem?_modify, h]
theorem Box3.set2 {W : World} {b : Nat} {x y z : ByteArray} (h : Box3 W b x y z) (z' : ByteArray) : Box3 (W.setCell ⟨b, 2, none⟩ (.string z')) b x y z' := by
  refine .of ?_
  have h := h.at_
  unfold World.setCell
  simp [Array.getElem?_modify, h]
def ParseX (X : Option Parts) (w : World) (e : Ending) (w' : World) : Prop := e = .returned (.tuple #[evrV X, .int .i64 (errOf X)]) ∧ Below w.heap.size w w'

set_option maxHeartbeats 8000000 in
set_option maxRecDepth 100000 in
theorem rparse_c (s : ByteArray) (hs : s.size ≤ maxLen) (w : World) : Calls Tryz.prog 76 #[.string s] w (ParseX (parse (bs s)) w) := by
  have hs' : s.size ≤ 9223372036854775807 := hs
  generalize hX : parse (bs s) = X
  have hbx := boxes2 w ⟨#[]⟩ ⟨#[]⟩ ⟨#[]⟩ ⟨#[]⟩ ⟨#[]⟩ ⟨#[]⟩
  have HM := rmay_c s hs
  cases hok : okText (bs s) with
  | false =>
    rw [hok] at HM
    have hM := Lib.hid HM
    obtain rfl : X = none := by rw [← hX]; unfold parse; rw [if_pos hok]
    clear HM hX hbx hok
    go_enter Tryz.func76, Tryz.ntmps76
    go_wp2_with fail
    refine (hM.out _).mono ?_
    rintro e w' ⟨rfl, rfl⟩
    go_wp2
    refine bodyPost_ret (v := .tuple #[evrV none, .int .i64 30]) (by simp [results, Tryz.results76, go_sem, evrV]) rfl ?_
    exact ⟨rfl, below1 _ _⟩
  | true =>
    rw [hok] at HM
    have hM := Lib.hid HM
    have hX1 : X = match fi 58 (bs s) with | some i => if okEpoch ((bs s).take i) = false then none else parse2 ((bs s).take i) ((bs s).drop (i + 1)) | none => parse2 [] (bs s) := by
      rw [← hX]; unfold parse; rw [if_neg (by rw [hok]; simp)]
      cases fi 58 (bs s) <;> rfl
    have HX0 := Lib.hid hX1
    have BX := Lib.hid hbx
    clear HM hX hX1 hbx hok
    go_enter Tryz.func76, Tryz.ntmps76
    go_wp2_with fail
    refine (hM.out _).mono ?_
    rintro e w' ⟨rfl, rfl⟩
    go_wp2
    obtain ⟨w4, en⟩ : ∃ w4, ((w.alloc (.cells #[.string ⟨#[]⟩, .string ⟨#[]⟩, .string ⟨#[]⟩] 97)).alloc (.cells #[.string ⟨#[]⟩, .string ⟨#[]⟩, .string ⟨#[]⟩] 97)) = w4 := ⟨_, rfl⟩
    have XA1 := Lib.hid BX.out.1
    have XB1 := Lib.hid BX.out.2
    have HB1 := Lib.hid (below2 w (.cells #[.string ⟨#[]⟩, .string ⟨#[]⟩, .string ⟨#[]⟩] 97) (.cells #[.string ⟨#[]⟩, .string ⟨#[]⟩, .string ⟨#[]⟩] 97))
    rw [en] at XA1 XB1 HB1
    rw [en]
    clear en BX hM
    go_loopw [0, 6] (fun vs vi wr => ∃ k : Nat, k ≤ s.size ∧ vs = .string s ∧ vi = .int .i64 k ∧ w4 = wr ∧ Hid (∀ j (hj : j < (bs s).length), j < k → (bs s)[j] ≠ 58)) (fun _ vi _ => s.size - (intOf vi).toNat)
    case atStart => exact ⟨0, Nat.zero_le _, rfl, rfl, rfl, fun j _ hj => absurd hj (Nat.not_lt_zero j)⟩
    case round =>
      obtain ⟨k, hk, rfl, rfl, rfl, HK⟩ := hrel
      have XA0 := XA1
      have XB0 := XB1
      have HB0 := HB1
      clear XA1 XB1 HB1
      by_cases hlt : k < s.size
      · have hlt' : (k : Int) < (s.size : Int) := by omega
        have i1 : (0 : Int) ≤ (k : Int) := by omega
        by_cases hc : s[k] = 58
        · have hB : ((s[k].toNat : Int) != 58) = false := by have := u8_eq.1 hc; simpa using this
          have hfi := fi_at hlt hc HK.out
          have hX2 := HX0.out
          rw [hfi] at hX2
          simp only at hX2
          rw [← bs_head, ← bs_drop] at hX2
          have i2 : (k : Int) ≤ (s.size : Int) := by omega
          have i3 : (k : Int) + 1 ≤ (s.size : Int) := by omega
          have za : (s.extract 0 k).size ≤ s.size := size_le
          have zb := size_tail s (k + 1)
          have hD := digits_c (s.extract 0 k) (by unfold maxLen; omega)
          obtain ⟨E, e1⟩ : ∃ E, s.extract 0 k = E := ⟨_, rfl⟩
          obtain ⟨R, e2⟩ : ∃ R, s.extract (k + 1) s.size = R := ⟨_, rfl⟩
          rw [e1] at hX2 hD za
          rw [e2] at hX2 zb
          have hR : R.size ≤ 9223372036854775807 := by omega
          clear hfi hc HK HX0 zb za
          cases hep : okEpoch (bs E) with
          | false =>
            obtain rfl : X = none := hX2.trans (if_pos hep)
            rw [hep] at hD
            have HD := Lib.hid hD
            have HB := HB0
            clear hD hX2 hep HB0
            obtain ⟨_, p0, p1, p2, _, _, _⟩ := XA0.out
            obtain ⟨_, q0, q1, q2, _, _, _⟩ := XB0.out
            go_wp2_with fail
            refine (HD.out _).mono ?_
            rintro e w' ⟨rfl, rfl⟩
            go_wp2
            refine bodyPost_ret (v := .tuple #[evrV none, .int .i64 30]) (by simp [results, Tryz.results76, go_sem, evrV, p0, p1, p2]) rfl ?_
            refine ⟨rfl, ?_⟩
            repeat (first | (with_reducible exact HB.out) | (with_reducible refine below_sc ?_ (by omega) _ _))
          | true =>
            have HX : Hid (X = parse2 (bs E) (bs R)) := hX2.trans (if_neg (by rw [hep]; simp))
            rw [hep] at hD
            have HD := Lib.hid hD
            clear hD hX2 hep
            obtain ⟨_, p0, p1, p2, _, _, _⟩ := XA0.out
            obtain ⟨_, q0, q1, q2, _, _, _⟩ := XB0.out
            go_wp2_with fail
            refine (HD.out _).mono ?_
            rintro e w' ⟨rfl, rfl⟩
            go_wp2
            obtain ⟨w5, en⟩ : ∃ w5, ((w4.setCell ⟨w.heap.size + 1, 0, none⟩ (.string E)).setCell ⟨w.heap.size + 1, 1, none⟩ (.string R)) = w5 := ⟨_, rfl⟩
            have XB : Hid (Box3 ((w4.setCell ⟨w.heap.size + 1, 0, none⟩ (.string E)).setCell ⟨w.heap.size + 1, 1, none⟩ (.string R)) (w.heap.size + 1) E R ⟨#[]⟩) := (XB0.out.set0 E).set1 R
            have XA : Hid (Box3 ((w4.setCell ⟨w.heap.size + 1, 0, none⟩ (.string E)).setCell ⟨w.heap.size + 1, 1, none⟩ (.string R)) w.heap.size ⟨#[]⟩ ⟨#[]⟩ ⟨#[]⟩) := (XA0.out.other (by omega)).other (by omega)
            have HB : Hid (Below w.heap.size w ((w4.setCell ⟨w.heap.size + 1, 0, none⟩ (.string E)).setCell ⟨w.heap.size + 1, 1, none⟩ (.string R))) := below_sc (below_sc HB0.out (by omega) _ _) (by omega) _ _
            rw [en] at XA XB HB
            rw [en]
            clear en XA0 XB0 HB0 p0 p1 p2 q0 q1 q2
            go_wp2
            go_loopw [8] (fun vi wr => ∃ k : Nat, k ≤ R.size ∧ vi = .int .i64 ((k : Int) - 1) ∧ w5 = wr ∧ Hid (∀ j (hj : j < (bs R).length), k ≤ j → (bs R)[j] ≠ 45)) (fun vi _ => (intOf vi + 1).toNat)
            case atStart => exact ⟨R.size, Nat.le_refl _, rfl, rfl, fun j hj hk => absurd hj (by rw [bs_length]; omega)⟩
            case round =>
              obtain ⟨k0, hk, rfl, rfl, HK0⟩ := hrel
              cases k0 with
              | zero =>
                have hno : 45 ∉ bs R := none_of fun j hj => HK0.out j hj (Nat.zero_le _)
                have HX2 : Hid (X = if bs R = [] ∨ 58 ∈ bs R then none else some (bs E, bs R, bs ⟨#[]⟩)) := by
                  rw [Hid, HX.out]
                  unfold parse2
                  rw [li_none.2 hno]
                clear HX hno HK0
                have HX := HX2
                clear HX2
                obtain ⟨_, p0, p1, p2, _, _, _⟩ := XA.out
                obtain ⟨_, q0, q1, q2, _, _, _⟩ := XB.out
                by_cases hv : R.size = 0
                · obtain rfl : X = none := HX.out.trans (if_pos (.inl (bs_nil.2 hv)))
                  have hve : R.toList = [] := by rw [bs_toList]; exact bs_nil.2 hv
                  have hve2 : R.toList.isEmpty = true := by rw [hve]; rfl
                  clear HX hv hve
                  go_wp2
                  refine bodyPost_ret (v := .tuple #[evrV none, .int .i64 30]) (by simp [results, Tryz.results76, go_sem, evrV, p0, p1, p2]) rfl ?_
                  refine ⟨rfl, ?_⟩
                  repeat (first | (with_reducible exact HB.out) | (with_reducible refine below_sc ?_ (by omega) _ _))
                · have hve := bs_nonempty (s := R) (by omega)
                  have hin := in_c 58 R (by unfold maxLen; omega)
                  by_cases h58 : 58 ∈ bs R
                  · obtain rfl : X = none := HX.out.trans (if_pos (.inr h58))
                    rw [decide_eq_true h58] at hin
                    have HIN := Lib.hid hin
                    clear HX hv hin h58
                    go_wp2_with fail
                    refine (HIN.out _).mono ?_
                    rintro e w' ⟨rfl, rfl⟩
                    go_wp2
                    refine bodyPost_ret (v := .tuple #[evrV none, .int .i64 30]) (by simp [results, Tryz.results76, go_sem, evrV, p0, p1, p2]) rfl ?_
                    refine ⟨rfl, ?_⟩
                    repeat (first | (with_reducible exact HB.out) | (with_reducible refine below_sc ?_ (by omega) _ _))
                  · have hx : X = some (bs E, bs R, bs ⟨#[]⟩) := HX.out.trans (if_neg (by rintro (h | h); exact hv (bs_nil.1 h); exact h58 h))
                    rw [decide_eq_false h58] at hin
                    have HIN := Lib.hid hin
                    have HX2 := Lib.hid hx
                    clear HX hv hin h58 hx
                    go_wp2_with fail
                    refine (HIN.out _).mono ?_
                    rintro e w' ⟨rfl, rfl⟩
                    go_wp2
                    refine bodyPost_ret (v := .tuple #[.agg #[.string E, .string R, .string ⟨#[]⟩], .int .i64 0]) (by simp [results, Tryz.results76, go_sem, p0, p1, p2, q0, q1, q2]) rfl ?_
                    refine ⟨by rw [HX2.out, evrV_some]; rfl, ?_⟩
                    repeat (first | (with_reducible exact HB.out) | (with_reducible refine below_sc ?_ (by omega) _ _))
              | succ k =>
                have HK : Hid (∀ j (hj : j < (bs R).length), k < j → (bs R)[j] ≠ 45) := fun j hj h => HK0.out j hj (by omega)
                have ek : (((k + 1 : Nat) : Int) - 1) = (k : Int) := by omega
                rw [ek]
                clear ek HK0
                by_cases hc : R[k] = 45
                · skip
                  have hli := li_at (s := R) (c := 45) (j := k) (by omega) hc HK.out
                  have hX2 : X = if (bs R).drop (k + 1) = [] then none else if (bs R).take k = [] ∨ 58 ∈ bs R then none else some (bs E, (bs R).take k, (bs R).drop (k + 1)) := by
                    rw [HX.out]
                    unfold parse2
                    rw [hli]
                  rw [← bs_head, ← bs_drop] at hX2
                  have sv := size_head R k (by omega)
                  have sl := size_tail R (k + 1)
                  have i1 : (0 : Int) ≤ (k : Int) := by omega
                  have i2 : (k : Int) ≤ ((R.size : Nat) : Int) := by omega
                  have i3 : (k : Int) + 1 ≤ ((R.size : Nat) : Int) := by omega
                  have i4 : (k : Int) < ((R.size : Nat) : Int) := by omega
                  have hnat : k + 1 ≤ R.size := by omega
                  have hB : ((R[k].toNat : Int) == 45) = true := u8_eq.1 hc
                  obtain ⟨V, e1⟩ : ∃ V, R.extract 0 k = V := ⟨_, rfl⟩
                  obtain ⟨L, e2⟩ : ∃ L, R.extract (k + 1) R.size = L := ⟨_, rfl⟩
                  rw [e1] at hX2 sv
                  rw [e2] at hX2 sl
                  have HX2 := Lib.hid hX2
                  have SV := Lib.hid sv
                  have SL := Lib.hid sl
                  clear hX2 sv sl hli HX HK hc
                  by_cases hl : L.size = 0
                  · obtain rfl : X = none := HX2.out.trans (if_pos (bs_nil.2 hl))
                    obtain rfl := bs_zero hl
                    clear HX2 hl
                    obtain ⟨_, p0, p1, p2, _, _, _⟩ := XA.out
                    obtain ⟨_, q0, q1, q2, _, _, _⟩ := XB.out
                    go_wp2
                    refine bodyPost_ret (v := .tuple #[evrV none, .int .i64 30]) (by simp [results, Tryz.results76, go_sem, evrV, p0, p1, p2]) rfl ?_
                    refine ⟨rfl, ?_⟩
                    repeat (first | (with_reducible exact HB.out) | (with_reducible refine below_sc ?_ (by omega) _ _))
                  · have hle := bs_nonempty (s := L) (by omega)
                    have HX : Hid (X = if bs V = [] ∨ 58 ∈ bs R then none else some (bs E, bs V, bs L)) := HX2.out.trans (if_neg (fun h => hl (bs_nil.1 h)))
                    clear HX2 hl
                    by_cases hv : V.size = 0
                    · obtain rfl : X = none := HX.out.trans (if_pos (.inl (bs_nil.2 hv)))
                      obtain rfl := bs_zero hv
                      clear HX hv
                      obtain ⟨_, p0, p1, p2, _, _, _⟩ := XA.out
                      obtain ⟨_, q0, q1, q2, _, _, _⟩ := XB.out
                      go_wp2
                      refine bodyPost_ret (v := .tuple #[evrV none, .int .i64 30]) (by simp [results, Tryz.results76, go_sem, evrV, p0, p1, p2]) rfl ?_
                      refine ⟨rfl, ?_⟩
                      repeat (first | (with_reducible exact HB.out) | (with_reducible refine below_sc ?_ (by omega) _ _))
                    · have hve := bs_nonempty (s := V) (by omega)
                      obtain ⟨_, p0, p1, p2, _, _, _⟩ := XA.out
                      obtain ⟨_, q0, q1, q2, _, _, _⟩ := XB.out
                      go_wp2_with fail
                      obtain ⟨w6, en⟩ : ∃ w6, (w5.setCell ⟨w.heap.size + 1, 1, none⟩ (.string V)).setCell ⟨w.heap.size + 1, 2, none⟩ (.string L) = w6 := ⟨_, rfl⟩
                      have XB2 : Hid (Box3 ((w5.setCell ⟨w.heap.size + 1, 1, none⟩ (.string V)).setCell ⟨w.heap.size + 1, 2, none⟩ (.string L)) (w.heap.size + 1) E V L) := (XB.out.set1 V).set2 L
                      have XA2 : Hid (Box3 ((w5.setCell ⟨w.heap.size + 1, 1, none⟩ (.string V)).setCell ⟨w.heap.size + 1, 2, none⟩ (.string L)) w.heap.size ⟨#[]⟩ ⟨#[]⟩ ⟨#[]⟩) := (XA.out.other (by omega)).other (by omega)
                      have HB2 : Hid (Below w.heap.size w ((w5.setCell ⟨w.heap.size + 1, 1, none⟩ (.string V)).setCell ⟨w.heap.size + 1, 2, none⟩ (.string L))) := below_sc (below_sc HB.out (by omega) _ _) (by omega) _ _
                      rw [en] at XA2 XB2 HB2
                      rw [en]
                      clear en XA XB HB p0 p1 p2 q0 q1 q2
                      have XA := XA2
                      have XB := XB2
                      have HB := HB2
                      clear XA2 XB2 HB2
                      obtain ⟨_, p0, p1, p2, _, _, _⟩ := XA.out
                      obtain ⟨_, q0, q1, q2, _, _, _⟩ := XB.out
                      have hin := in_c 58 R (by unfold maxLen; omega)
                      by_cases h58 : 58 ∈ bs R
                      · obtain rfl : X = none := HX.out.trans (if_pos (.inr h58))
                        rw [decide_eq_true h58] at hin
                        have HIN := Lib.hid hin
                        clear HX hv hin h58
                        refine (HIN.out _).mono ?_
                        rintro e w' ⟨rfl, rfl⟩
                        go_wp2
                        refine bodyPost_ret (v := .tuple #[evrV none, .int .i64 30]) (by simp [results, Tryz.results76, go_sem, evrV, p0, p1, p2]) rfl ?_
                        refine ⟨rfl, ?_⟩
                        repeat (first | (with_reducible exact HB.out) | (with_reducible refine below_sc ?_ (by omega) _ _))
                      · have hx : X = some (bs E, bs V, bs L) := HX.out.trans (if_neg (by rintro (h | h); exact hv (bs_nil.1 h); exact h58 h))
                        rw [decide_eq_false h58] at hin
                        have HIN := Lib.hid hin
                        have HX2 := Lib.hid hx
                        clear HX hv hin h58 hx
                        refine (HIN.out _).mono ?_
                        rintro e w' ⟨rfl, rfl⟩
                        go_wp2
                        refine bodyPost_ret (v := .tuple #[.agg #[.string E, .string V, .string L], .int .i64 0]) (by simp [results, Tryz.results76, go_sem, p0, p1, p2, q0, q1, q2]) rfl ?_
                        refine ⟨by rw [HX2.out, evrV_some]; rfl, ?_⟩
                        repeat (first | (with_reducible exact HB.out) | (with_reducible refine below_sc ?_ (by omega) _ _))
                · have hB : ((R[k].toNat : Int) == 45) = false := u8_ne.1 hc
                  have i1 : (0 : Int) ≤ (k : Int) := by omega
                  have i4 : (k : Int) < ((R.size : Nat) : Int) := by omega
                  have hnat : k + 1 ≤ R.size := by omega
                  have HC := Lib.hid hc
                  clear hc
                  go_wp2
                  go_roundw
                  case rel =>
                    refine ⟨k, by omega, rfl, trivial, fun j hj hkj => ?_⟩
                    by_cases e : j = k
                    · subst e; exact HC.out
                    · exact HK.out j hj (by omega)
                  case measure => simp [intOf]
        · have hB : ((s[k].toNat : Int) != 58) = true := by have := u8_ne.1 hc; simpa using this
          have HC := Lib.hid hc
          clear hc
          go_wp2
          go_roundw
          case rel =>
            refine ⟨k + 1, by omega, rfl, by go_num, trivial, fun j hj hjk => ?_⟩
            by_cases hjk' : j < k
            · exact HK.out j hj hjk'
            · obtain rfl : j = k := by omega
              exact HC.out
          case measure => simp [intOf]; omega
      · have hge : ¬ (k : Int) < (s.size : Int) := by omega
        have hno : 58 ∉ bs s := none_of fun j hj => HK.out j hj (by rw [bs_length] at hj; omega)
        have HX : Hid (X = parse2 (bs ⟨#[]⟩) (bs s)) := by
          rw [Hid, HX0.out, fi_none.2 hno]
        clear hno HK HX0
        obtain ⟨_, p0, p1, p2, _, _, _⟩ := XA0.out
        obtain ⟨_, q0, q1, q2, _, _, _⟩ := XB0.out
        go_wp2_with fail
        obtain ⟨w5, en⟩ : ∃ w5, (w4.setCell ⟨w.heap.size + 1, 1, none⟩ (.string s)) = w5 := ⟨_, rfl⟩
        have XB : Hid (Box3 (w4.setCell ⟨w.heap.size + 1, 1, none⟩ (.string s)) (w.heap.size + 1) ⟨#[]⟩ s ⟨#[]⟩) := XB0.out.set1 s
        have XA : Hid (Box3 (w4.setCell ⟨w.heap.size + 1, 1, none⟩ (.string s)) w.heap.size ⟨#[]⟩ ⟨#[]⟩ ⟨#[]⟩) := XA0.out.other (by omega)
        have HB : Hid (Below w.heap.size w (w4.setCell ⟨w.heap.size + 1, 1, none⟩ (.string s))) := below_sc HB0.out (by omega) _ _
        rw [en] at XA XB HB
        rw [en]
        clear en XA0 XB0 HB0 p0 p1 p2 q0 q1 q2
        have hR := hs'
        clear hge hlt hk
        go_wp2
        go_loopw [8] (fun vi wr => ∃ k : Nat, k ≤ s.size ∧ vi = .int .i64 ((k : Int) - 1) ∧ w5 = wr ∧ Hid (∀ j (hj : j < (bs s).length), k ≤ j → (bs s)[j] ≠ 45)) (fun vi _ => (intOf vi + 1).toNat)
        case atStart => exact ⟨s.size, Nat.le_refl _, rfl, rfl, fun j hj hk => absurd hj (by rw [bs_length]; omega)⟩
        case round =>
          obtain ⟨k0, hk, rfl, rfl, HK0⟩ := hrel
          cases k0 with
          | zero =>
            have hno : 45 ∉ bs s := none_of fun j hj => HK0.out j hj (Nat.zero_le _)
            have HX2 : Hid (X = if bs s = [] ∨ 58 ∈ bs s then none else some (bs ⟨#[]⟩, bs s, bs ⟨#[]⟩)) := by
              rw [Hid, HX.out]
              unfold parse2
              rw [li_none.2 hno]
            clear HX hno HK0
            have HX := HX2
            clear HX2
            obtain ⟨_, p0, p1, p2, _, _, _⟩ := XA.out
            obtain ⟨_, q0, q1, q2, _, _, _⟩ := XB.out
            by_cases hv : s.size = 0
            · obtain rfl : X = none := HX.out.trans (if_pos (.inl (bs_nil.2 hv)))
              have hve : s.toList = [] := by rw [bs_toList]; exact bs_nil.2 hv
              have hve2 : s.toList.isEmpty = true := by rw [hve]; rfl
              clear HX hv hve
              go_wp2
              refine bodyPost_ret (v := .tuple #[evrV none, .int .i64 30]) (by simp [results, Tryz.results76, go_sem, evrV, p0, p1, p2]) rfl ?_
              refine ⟨rfl, ?_⟩
              repeat (first | (with_reducible exact HB.out) | (with_reducible refine below_sc ?_ (by omega) _ _))
            · have hve := bs_nonempty (s := s) (by omega)
              have hin := in_c 58 s (by unfold maxLen; omega)
              by_cases h58 : 58 ∈ bs s
              · obtain rfl : X = none := HX.out.trans (if_pos (.inr h58))
                rw [decide_eq_true h58] at hin
                have HIN := Lib.hid hin
                clear HX hv hin h58
                go_wp2_with fail
                refine (HIN.out _).mono ?_
                rintro e w' ⟨rfl, rfl⟩
                go_wp2
                refine bodyPost_ret (v := .tuple #[evrV none, .int .i64 30]) (by simp [results, Tryz.results76, go_sem, evrV, p0, p1, p2]) rfl ?_
                refine ⟨rfl, ?_⟩
                repeat (first | (with_reducible exact HB.out) | (with_reducible refine below_sc ?_ (by omega) _ _))
              · have hx : X = some (bs ⟨#[]⟩, bs s, bs ⟨#[]⟩) := HX.out.trans (if_neg (by rintro (h | h); exact hv (bs_nil.1 h); exact h58 h))
                rw [decide_eq_false h58] at hin
                have HIN := Lib.hid hin
                have HX2 := Lib.hid hx
                clear HX hv hin h58 hx
                go_wp2_with fail
                refine (HIN.out _).mono ?_
                rintro e w' ⟨rfl, rfl⟩
                go_wp2
                refine bodyPost_ret (v := .tuple #[.agg #[.string ⟨#[]⟩, .string s, .string ⟨#[]⟩], .int .i64 0]) (by simp [results, Tryz.results76, go_sem, p0, p1, p2, q0, q1, q2]) rfl ?_
                refine ⟨by rw [HX2.out, evrV_some]; rfl, ?_⟩
                repeat (first | (with_reducible exact HB.out) | (with_reducible refine below_sc ?_ (by omega) _ _))
          | succ k =>
            have HK : Hid (∀ j (hj : j < (bs s).length), k < j → (bs s)[j] ≠ 45) := fun j hj h => HK0.out j hj (by omega)
            have ek : (((k + 1 : Nat) : Int) - 1) = (k : Int) := by omega
            rw [ek]
            clear ek HK0
            by_cases hc : s[k] = 45
            · skip
              have hli := li_at (s := s) (c := 45) (j := k) (by omega) hc HK.out
              have hX2 : X = if (bs s).drop (k + 1) = [] then none else if (bs s).take k = [] ∨ 58 ∈ bs s then none else some (bs ⟨#[]⟩, (bs s).take k, (bs s).drop (k + 1)) := by
                rw [HX.out]
                unfold parse2
                rw [hli]
              rw [← bs_head, ← bs_drop] at hX2
              have sv := size_head s k (by omega)
              have sl := size_tail s (k + 1)
              have i1 : (0 : Int) ≤ (k : Int) := by omega
              have i2 : (k : Int) ≤ ((s.size : Nat) : Int) := by omega
              have i3 : (k : Int) + 1 ≤ ((s.size : Nat) : Int) := by omega
              have i4 : (k : Int) < ((s.size : Nat) : Int) := by omega
              have hnat : k + 1 ≤ s.size := by omega
              have hB : ((s[k].toNat : Int) == 45) = true := u8_eq.1 hc
              obtain ⟨V, e1⟩ : ∃ V, s.extract 0 k = V := ⟨_, rfl⟩
              obtain ⟨L, e2⟩ : ∃ L, s.extract (k + 1) s.size = L := ⟨_, rfl⟩
              rw [e1] at hX2 sv
              rw [e2] at hX2 sl
              have HX2 := Lib.hid hX2
              have SV := Lib.hid sv
              have SL := Lib.hid sl
              clear hX2 sv sl hli HX HK hc
              by_cases hl : L.size = 0
              · obtain rfl : X = none := HX2.out.trans (if_pos (bs_nil.2 hl))
                obtain rfl := bs_zero hl
                clear HX2 hl
                obtain ⟨_, p0, p1, p2, _, _, _⟩ := XA.out
                obtain ⟨_, q0, q1, q2, _, _, _⟩ := XB.out
                go_wp2
                refine bodyPost_ret (v := .tuple #[evrV none, .int .i64 30]) (by simp [results, Tryz.results76, go_sem, evrV, p0, p1, p2]) rfl ?_
                refine ⟨rfl, ?_⟩
                repeat (first | (with_reducible exact HB.out) | (with_reducible refine below_sc ?_ (by omega) _ _))
              · have hle := bs_nonempty (s := L) (by omega)
                have HX : Hid (X = if bs V = [] ∨ 58 ∈ bs s then none else some (bs ⟨#[]⟩, bs V, bs L)) := HX2.out.trans (if_neg (fun h => hl (bs_nil.1 h)))
                clear HX2 hl
                by_cases hv : V.size = 0
                · obtain rfl : X = none := HX.out.trans (if_pos (.inl (bs_nil.2 hv)))
                  obtain rfl := bs_zero hv
                  clear HX hv
                  obtain ⟨_, p0, p1, p2, _, _, _⟩ := XA.out
                  obtain ⟨_, q0, q1, q2, _, _, _⟩ := XB.out
                  go_wp2
                  refine bodyPost_ret (v := .tuple #[evrV none, .int .i64 30]) (by simp [results, Tryz.results76, go_sem, evrV, p0, p1, p2]) rfl ?_
                  refine ⟨rfl, ?_⟩
                  repeat (first | (with_reducible exact HB.out) | (with_reducible refine below_sc ?_ (by omega) _ _))
                · have hve := bs_nonempty (s := V) (by omega)
                  obtain ⟨_, p0, p1, p2, _, _, _⟩ := XA.out
                  obtain ⟨_, q0, q1, q2, _, _, _⟩ := XB.out
                  go_wp2_with fail
                  obtain ⟨w6, en⟩ : ∃ w6, (w5.setCell ⟨w.heap.size + 1, 1, none⟩ (.string V)).setCell ⟨w.heap.size + 1, 2, none⟩ (.string L) = w6 := ⟨_, rfl⟩
                  have XB2 : Hid (Box3 ((w5.setCell ⟨w.heap.size + 1, 1, none⟩ (.string V)).setCell ⟨w.heap.size + 1, 2, none⟩ (.string L)) (w.heap.size + 1) ⟨#[]⟩ V L) := (XB.out.set1 V).set2 L
                  have XA2 : Hid (Box3 ((w5.setCell ⟨w.heap.size + 1, 1, none⟩ (.string V)).setCell ⟨w.heap.size + 1, 2, none⟩ (.string L)) w.heap.size ⟨#[]⟩ ⟨#[]⟩ ⟨#[]⟩) := (XA.out.other (by omega)).other (by omega)
                  have HB2 : Hid (Below w.heap.size w ((w5.setCell ⟨w.heap.size + 1, 1, none⟩ (.string V)).setCell ⟨w.heap.size + 1, 2, none⟩ (.string L))) := below_sc (below_sc HB.out (by omega) _ _) (by omega) _ _
                  rw [en] at XA2 XB2 HB2
                  rw [en]
                  clear en XA XB HB p0 p1 p2 q0 q1 q2
                  have XA := XA2
                  have XB := XB2
                  have HB := HB2
                  clear XA2 XB2 HB2
                  obtain ⟨_, p0, p1, p2, _, _, _⟩ := XA.out
                  obtain ⟨_, q0, q1, q2, _, _, _⟩ := XB.out
                  have hin := in_c 58 s (by unfold maxLen; omega)
                  by_cases h58 : 58 ∈ bs s
                  · obtain rfl : X = none := HX.out.trans (if_pos (.inr h58))
                    rw [decide_eq_true h58] at hin
                    have HIN := Lib.hid hin
                    clear HX hv hin h58
                    refine (HIN.out _).mono ?_
                    rintro e w' ⟨rfl, rfl⟩
                    go_wp2
                    refine bodyPost_ret (v := .tuple #[evrV none, .int .i64 30]) (by simp [results, Tryz.results76, go_sem, evrV, p0, p1, p2]) rfl ?_
                    refine ⟨rfl, ?_⟩
                    repeat (first | (with_reducible exact HB.out) | (with_reducible refine below_sc ?_ (by omega) _ _))
                  · have hx : X = some (bs ⟨#[]⟩, bs V, bs L) := HX.out.trans (if_neg (by rintro (h | h); exact hv (bs_nil.1 h); exact h58 h))
                    rw [decide_eq_false h58] at hin
                    have HIN := Lib.hid hin
                    have HX2 := Lib.hid hx
                    clear HX hv hin h58 hx
                    refine (HIN.out _).mono ?_
                    rintro e w' ⟨rfl, rfl⟩
                    go_wp2
                    refine bodyPost_ret (v := .tuple #[.agg #[.string ⟨#[]⟩, .string V, .string L], .int .i64 0]) (by simp [results, Tryz.results76, go_sem, p0, p1, p2, q0, q1, q2]) rfl ?_
                    refine ⟨by rw [HX2.out, evrV_some]; rfl, ?_⟩
                    repeat (first | (with_reducible exact HB.out) | (with_reducible refine below_sc ?_ (by omega) _ _))
            · have hB : ((s[k].toNat : Int) == 45) = false := u8_ne.1 hc
              have i1 : (0 : Int) ≤ (k : Int) := by omega
              have i4 : (k : Int) < ((s.size : Nat) : Int) := by omega
              have hnat : k + 1 ≤ s.size := by omega
              have HC := Lib.hid hc
              clear hc
              go_wp2
              go_roundw
              case rel =>
                refine ⟨k, by omega, rfl, trivial, fun j hj hkj => ?_⟩
                by_cases e : j = k
                · subst e; exact HC.out
                · exact HK.out j hj (by omega)
              case measure => simp [intOf]

theorem rparse_some {s : ByteArray} (hs : s.size ≤ maxLen) {e v r : ByteArray} (h : parse (bs s) = some (bs e, bs v, bs r)) (w : World) :
    Calls Tryz.prog 76 #[.string s] w fun en w' => en = .returned (.tuple #[.agg #[.string e, .string v, .string r], .int .i64 0]) ∧ Below w.heap.size w w' := by
  have := rparse_c s hs w
  rw [h] at this
  exact this.mono fun en w' ⟨h1, h2⟩ => ⟨by rw [h1, evrV_some]; rfl, h2⟩
theorem rparse_none {s : ByteArray} (hs : s.size ≤ maxLen) (h : parse (bs s) = none) (w : World) :
    Calls Tryz.prog 76 #[.string s] w fun en w' => en = .returned (.tuple #[.agg #[.string ⟨#[]⟩, .string ⟨#[]⟩, .string ⟨#[]⟩], .int .i64 30]) ∧ Below w.heap.size w w' := by
  have := rparse_c s hs w
  rw [h] at this
  exact this
end Go.Proofs.YtjcefgjgjhdbpaaGreatDoor
