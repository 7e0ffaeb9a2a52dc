/-
  Cut, the bytes that may stand in a version: the contracts. Helper text; the conditions are those typed.
-/
import Derived.Test.YtgeimldijagkkaaWalkA
import Derived.Test.YtgeimldijagkkaaShelf
namespace Go.Proofs.Ytgeimldijagkkaa
set_option linter.unusedVariables false
set_option linter.unusedSimpArgs false
open Go.RowKit

/-- The place of a byte, as the library has it. -/
theorem indexByte_fi (c : UInt8) : ∀ l : List UInt8, Lib.indexByte l c = match fi c l with | some i => (i : Int) | none => -1
  | [] => rfl
  | x :: l => by
    unfold Lib.indexByte fi
    rw [indexByte_fi c l]
    by_cases h : x = c
    · subst h; simp
    · rw [if_neg (by simpa using h), if_neg h]
      cases fi c l with
      | none => simp
      | some i =>
        simp only [Option.map_some]
        rw [if_neg (by first | (simp; done) | (simp; omega))]
        rfl

theorem index_c (s : ByteArray) (c : UInt8) (w : World) : Calls Try.prog 85 #[.string s, .string ⟨#[c]⟩] w fun e w' => e = .returned (.int .i64 (Lib.indexByte (bs s) c)) ∧ w = w' :=
  (Any.stringslite_Index_one Try.layIndex s c w).mono fun _ _ ⟨h1, h2⟩ => ⟨h1, h2.symm⟩
theorem indexByte_c (s : ByteArray) (c : UInt8) (w : World) : Calls Try.prog 49 #[.string s, .int .u8 (c.toNat : Int)] w fun e w' => e = .returned (.int .i64 (Lib.indexByte (bs s) c)) ∧ w = w' :=
  (Any.strings_IndexByte Try.layIndexByte s (c.toNat : Int) w).mono fun _ _ ⟨h1, h2⟩ => ⟨by rw [h1]; simp, h2.symm⟩
theorem contains_c (s : ByteArray) (c : UInt8) (w : World) : Calls Try.prog 53 #[.string s, .string ⟨#[c]⟩] w fun e w' => e = .returned (.bool (decide (c ∈ bs s))) ∧ w = w' :=
  (Any.strings_Contains_one Try.layContains s c w).mono fun _ _ ⟨h1, h2⟩ => ⟨by
    rw [h1, indexByte_fi]
    have := @fi_none c (bs s)
    cases h : fi c (bs s) with
    | none => simp [this.1 h]
    | some i =>
      have hm : c ∈ bs s := by
        apply Decidable.byContradiction
        intro hn
        rw [this.2 hn] at h
        cases h
      simp [hm], h2.symm⟩

theorem lcut_yes (s : ByteArray) (c : UInt8) (i : Nat) (hi : fi c (bs s) = some i) (hs : s.size ≤ 9223372036854775807) (w : World) :
    Calls Try.prog 72 #[.string s, .string ⟨#[c]⟩] w fun e w' => e = .returned (.tuple #[.string (s.extract 0 i), .string (s.extract (i + 1) s.size), .bool true]) ∧ ∃ n, w' = w.drewN n := by
  have hc := index_c s c
  rw [indexByte_fi, hi] at hc
  have hil : i < s.size := by
    obtain ⟨h, _⟩ := fi_some.1 hi
    rw [bs_length] at h
    exact h
  have HC := Lib.hid hc
  clear hc hi
  have h0 : (0 : Int) ≤ (i : Int) := by omega
  have h1 : (i : Int) ≤ (s.size : Int) := by omega
  have h2 : (i : Int) + 1 ≤ (s.size : Int) := by omega
  have h3 : (⟨#[c]⟩ : ByteArray).size = 1 := rfl
  generalize (⟨#[c]⟩ : ByteArray) = sep at HC h3
  have hs1 : ((sep.size : Nat) : Int) = 1 := by rw [h3]; rfl
  clear h3
  go_enter Try.func72, Try.ntmps72
  go_wp2_with fail
  refine (HC.out _).mono ?_
  rintro e w' ⟨rfl, rfl⟩
  go_wp2
  go_quiet (fail)
  go_wp2
  go_ret3
  exact ⟨rfl, nq, rfl⟩
/-- Cut at a byte that is there. -/
theorem cut_yes (s : ByteArray) (c : UInt8) (i : Nat) (hi : fi c (bs s) = some i) (hs : s.size ≤ 9223372036854775807) (w : World) :
    Calls Try.prog 51 #[.string s, .string ⟨#[c]⟩] w fun e w' => e = .returned (.tuple #[.string (s.extract 0 i), .string (s.extract (i + 1) s.size), .bool true]) ∧ ∃ n, w' = w.drewN n := by
  have HC := Lib.hid (lcut_yes s c i hi hs)
  clear hi
  go_enter Try.func51, Try.ntmps51
  go_wp2_with fail
  refine (HC.out _).mono ?_
  rintro e w' ⟨rfl, n, rfl⟩
  go_wp2
  go_ret3
  exact ⟨rfl, n, rfl⟩
theorem lcut_no (s : ByteArray) (c : UInt8) (hi : fi c (bs s) = none) (w : World) :
    Calls Try.prog 72 #[.string s, .string ⟨#[c]⟩] w fun e w' => e = .returned (.tuple #[.string s, .string ⟨#[]⟩, .bool false]) ∧ w = w' := by
  have hc := index_c s c
  rw [indexByte_fi, hi] at hc
  have HC := Lib.hid hc
  clear hc hi
  go_enter Try.func72, Try.ntmps72
  go_wp2_with fail
  refine (HC.out _).mono ?_
  rintro e w' ⟨rfl, rfl⟩
  go_wp2
  go_ret3
  exact ⟨rfl, rfl⟩
theorem cut_no (s : ByteArray) (c : UInt8) (hi : fi c (bs s) = none) (w : World) :
    Calls Try.prog 51 #[.string s, .string ⟨#[c]⟩] w fun e w' => e = .returned (.tuple #[.string s, .string ⟨#[]⟩, .bool false]) ∧ w = w' := by
  have HC := Lib.hid (lcut_no s c hi)
  clear hi
  go_enter Try.func51, Try.ntmps51
  go_wp2_with fail
  refine (HC.out _).mono ?_
  rintro e w' ⟨rfl, rfl⟩
  go_wp2
  go_ret3
  exact ⟨rfl, rfl⟩

/-- The last place of a byte, as the library has it. -/
theorem last_li (s : ByteArray) (c : UInt8) : Lib.lastIndexByte s (c.toNat : Int) = match li c (bs s) with | some i => (i : Int) | none => -1 := by
  have hsz : s.data.size = s.size := rfl
  have hg : ∀ j (h : j < (bs s).length), s.data[j]! = (bs s)[j] := by
    intro j h
    have h' : j < s.data.size := by rw [bs_length] at h; exact h
    rw [getElem!_pos s.data j h']
    rfl
  have hn : ∀ {a b : UInt8}, ((a.toNat : Nat) : Int) = ((b.toNat : Nat) : Int) → a = b := fun h => UInt8.toNat_inj.1 (by omega)
  rcases Lib.lastIndexByte_spec s (c.toNat : Int) with ⟨e, hno⟩ | ⟨i, hi, e, hc, hno⟩
  · have : li c (bs s) = none := by
      rw [li_none]
      intro hm
      obtain ⟨j, hj, hj2⟩ := List.getElem_of_mem hm
      have := hno j (by rw [bs_length] at hj; exact hj)
      rw [hg j hj, hj2] at this
      exact this rfl
    rw [e, this]
  · have hi' : i < (bs s).length := by rw [bs_length]; exact hi
    have : li c (bs s) = some i := by
      rw [li_some]
      refine ⟨hi', ?_, fun j hj hij => ?_⟩
      · rw [hg i hi'] at hc
        exact hn hc
      · intro hjc
        have := hno j hij (by rw [bs_length] at hj; exact hj)
        rw [hg j hj, hjc] at this
        exact this rfl
    rw [e, this]

theorem last_c (s : ByteArray) (c : UInt8) (hs : s.size < 4611686018427387904) (w : World) : Calls Try.prog 52 #[.string s, .int .u8 (c.toNat : Int)] w fun e w' => e = .returned (.int .i64 (match li c (bs s) with | some i => (i : Int) | none => -1)) ∧ w = w' :=
  (Any.strings_LastIndexByte Try.layLast s (c.toNat : Int) hs w).mono fun _ _ ⟨h1, h2⟩ => ⟨by rw [h1, last_li], h2.symm⟩

theorem may_c (c : UInt8) (w : World) : Calls Try.prog 46 #[.int .u8 (c.toNat : Int)] w fun e w' => e = .returned (.bool (may c)) ∧ w = w' := by
  have hI := indexByte_c ⟨#[46, 95, 43, 126, 94, 45, 58]⟩ c
  rw [indexByte_fi] at hI
  have hd := digit_c c
  have hl := letter_c c
  have HD := Lib.hid hd
  have HL := Lib.hid hl
  clear hd hl
  unfold may
  cases h1 : dig c with
  | true =>
    rw [h1] at HD
    clear h1 hI
    go_enter Try.func46, Try.ntmps46
    go_wp2_with fail
    refine (HD.out _).mono ?_
    rintro e w' ⟨rfl, rfl⟩
    go_wp2
    go_ret
    exact ⟨rfl, rfl⟩
  | false =>
    rw [h1] at HD
    clear h1
    cases h2 : lett c with
    | true =>
      rw [h2] at HL
      clear h2 hI
      go_enter Try.func46, Try.ntmps46
      go_wp2_with fail
      refine (HD.out _).mono ?_
      rintro e w' ⟨rfl, rfl⟩
      go_wp2_with fail
      refine (HL.out _).mono ?_
      rintro e w' ⟨rfl, rfl⟩
      go_wp2
      go_ret
      exact ⟨rfl, rfl⟩
    | false =>
      rw [h2] at HL
      clear h2
      have hm : ∀ b, b = signs7.contains c → Calls Try.prog 46 #[.int .u8 (c.toNat : Int)] w fun e w' => e = .returned (.bool b) ∧ w = w' := by
        intro b hb
        cases hf : fi c signs7 with
        | none =>
          have : c ∉ signs7 := fi_none.1 hf
          have hb' : b = false := by rw [hb]; simpa using this
          subst hb'
          have e : bs ⟨#[46, 95, 43, 126, 94, 45, 58]⟩ = signs7 := rfl
          rw [e, hf] at hI
          have HI := Lib.hid hI
          clear hI hb hf this e
          go_enter Try.func46, Try.ntmps46
          go_wp2_with fail
          refine (HD.out _).mono ?_
          rintro e w' ⟨rfl, rfl⟩
          go_wp2_with fail
          refine (HL.out _).mono ?_
          rintro e w' ⟨rfl, rfl⟩
          go_wp2_with fail
          refine (HI.out _).mono ?_
          rintro e w' ⟨rfl, rfl⟩
          go_wp2
          go_ret
          exact ⟨rfl, rfl⟩
        | some i =>
          have hin : c ∈ signs7 := by
            apply Decidable.byContradiction
            intro hn
            rw [fi_none.2 hn] at hf
            cases hf
          have hb' : b = true := by rw [hb]; simpa using hin
          subst hb'
          have e : bs ⟨#[46, 95, 43, 126, 94, 45, 58]⟩ = signs7 := rfl
          rw [e, hf] at hI
          have HI := Lib.hid hI
          have hi0 : (0 : Int) ≤ (i : Int) := by omega
          clear hI hb hf hin e
          go_enter Try.func46, Try.ntmps46
          go_wp2_with fail
          refine (HD.out _).mono ?_
          rintro e w' ⟨rfl, rfl⟩
          go_wp2_with fail
          refine (HL.out _).mono ?_
          rintro e w' ⟨rfl, rfl⟩
          go_wp2_with fail
          refine (HI.out _).mono ?_
          rintro e w' ⟨rfl, rfl⟩
          go_wp2
          go_ret
          exact ⟨rfl, rfl⟩
      exact hm _ (by simp)

theorem enter46 : ∀ args w, (callFunc 46 args).run Try.prog w = .ok (.enter 46 args) w := fun args w => by kernel_rfl
theorem enter47 : ∀ args w, (callFunc 47 args).run Try.prog w = .ok (.enter 47 args) w := fun args w => by kernel_rfl
theorem enter48 : ∀ args w, (callFunc 48 args).run Try.prog w = .ok (.enter 48 args) w := fun args w => by kernel_rfl
theorem count_may (s : ByteArray) (hs : s.size ≤ maxLen) (w : World) : Calls Try.prog 50 #[.string s, .func (.func 46) #[] #[]] w fun e w' => e = .returned (.int .i64 (cnt may (bs s) : Nat)) ∧ w = w' :=
  count_any 46 #[] enter46 may s hs w fun c => may_c c w
theorem count_dig (s : ByteArray) (hs : s.size ≤ maxLen) (w : World) : Calls Try.prog 50 #[.string s, .func (.func 47) #[] #[]] w fun e w' => e = .returned (.int .i64 (cnt dig (bs s) : Nat)) ∧ w = w' :=
  count_any 47 #[] enter47 dig s hs w fun c => digit_c c w
theorem count_lett (s : ByteArray) (hs : s.size ≤ maxLen) (w : World) : Calls Try.prog 50 #[.string s, .func (.func 48) #[] #[]] w fun e w' => e = .returned (.int .i64 (cnt lett (bs s) : Nat)) ∧ w = w' :=
  count_any 48 #[] enter48 lett s hs w fun c => letter_c c w
end Go.Proofs.Ytgeimldijagkkaa
