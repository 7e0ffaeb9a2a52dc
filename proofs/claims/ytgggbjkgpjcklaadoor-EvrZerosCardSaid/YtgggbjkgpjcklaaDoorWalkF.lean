/-
  rpm's closures: the contracts. Helper text; the conditions are those typed.
-/
import Derived.Test.YtgggbjkgpjcklaaDoorWalkE
namespace Go.Proofs.YtgggbjkgpjcklaaDoor
set_option linter.unusedVariables false
set_option linter.unusedSimpArgs false
open Go.RowKit

/-- Does a text begin with a byte? -/
def hd (c : UInt8) : List UInt8 → Bool
  | [] => false
  | x :: _ => decide (x = c)

theorem prefix_c (s : ByteArray) (c : UInt8) (w : World) : Calls Tryd.prog 60 #[.string s, .string ⟨#[c]⟩] w fun e w' => e = .returned (.bool (hd c (bs s))) ∧ w = w' :=
  (Any.strings_HasPrefix Tryd.layPrefix s ⟨#[c]⟩ w).mono fun _ _ ⟨h1, h2⟩ => ⟨by
    rw [h1]
    congr 2
    show Lib.hasPrefix (bs s) [c] = _
    cases bs s with
    | nil => rfl
    | cons x l =>
      unfold Lib.hasPrefix hd
      simp only [List.isPrefixOf, Bool.and_true]
      rw [Bool.eq_iff_iff]
      simp only [beq_iff_eq, decide_eq_true_iff]
      exact eq_comm
      , h2.symm⟩

theorem matters_c (c : UInt8) (w : World) : Calls Tryd.prog 61 #[.int .u8 (c.toNat : Int)] w fun e w' => e = .returned (.bool (!odd c)) ∧ w = w' := by
  unfold odd
  rw [Bool.not_not]
  have HD := Lib.hid (digit_c c)
  have HL := Lib.hid (letter_c c)
  have e126 : (c == 126) = decide (c.toNat = 126) := by
    rw [Bool.eq_iff_iff, beq_iff_eq, decide_eq_true_iff]
    exact ⟨fun h => by rw [h]; rfl, fun h => UInt8.toNat_inj.1 h⟩
  have e94 : (c == 94) = decide (c.toNat = 94) := by
    rw [Bool.eq_iff_iff, beq_iff_eq, decide_eq_true_iff]
    exact ⟨fun h => by rw [h]; rfl, fun h => UInt8.toNat_inj.1 h⟩
  rw [e126, e94]
  clear e126 e94
  cases h1 : dig c with
  | true =>
    rw [h1] at HD
    clear h1
    go_enter Tryd.func61, Tryd.ntmps61
    go_wp2_with fail
    refine (HD.out _).mono ?_
    rintro e w' ⟨rfl, rfl⟩
    go_wp2
    go_ret
    exact ⟨rfl, rfl⟩
  | false =>
    rw [h1] at HD
    clear h1
    cases h2 : lett c with
    | true =>
      rw [h2] at HL
      clear h2
      go_enter Tryd.func61, Tryd.ntmps61
      go_wp2_with fail
      refine (HD.out _).mono ?_
      rintro e w' ⟨rfl, rfl⟩
      go_wp2_with fail
      refine (HL.out _).mono ?_
      rintro e w' ⟨rfl, rfl⟩
      go_wp2
      go_ret
      exact ⟨rfl, rfl⟩
    | false =>
      rw [h2] at HL
      clear h2
      generalize hn : c.toNat = n at *
      clear hn
      by_cases h3 : n = 126
      · subst h3
        go_enter Tryd.func61, Tryd.ntmps61
        go_wp2_with fail
        refine (HD.out _).mono ?_
        rintro e w' ⟨rfl, rfl⟩
        go_wp2_with fail
        refine (HL.out _).mono ?_
        rintro e w' ⟨rfl, rfl⟩
        go_wp2
        go_ret
        exact ⟨rfl, rfl⟩
      · have hB1 : ((n : Int) == 126) = false := by simp; omega
        rw [decide_eq_false h3]
        by_cases h4 : n = 94
        · subst h4
          clear h3
          go_enter Tryd.func61, Tryd.ntmps61
          go_wp2_with fail
          refine (HD.out _).mono ?_
          rintro e w' ⟨rfl, rfl⟩
          go_wp2_with fail
          refine (HL.out _).mono ?_
          rintro e w' ⟨rfl, rfl⟩
          go_wp2
          go_ret
          exact ⟨rfl, rfl⟩
        · have hB2 : ((n : Int) == 94) = false := by simp; omega
          rw [decide_eq_false h4]
          clear h3 h4
          go_enter Tryd.func61, Tryd.ntmps61
          go_wp2_with fail
          refine (HD.out _).mono ?_
          rintro e w' ⟨rfl, rfl⟩
          go_wp2_with fail
          refine (HL.out _).mono ?_
          rintro e w' ⟨rfl, rfl⟩
          go_wp2
          go_ret
          exact ⟨rfl, rfl⟩

theorem odd_c (c : UInt8) (m : Nat) (w : World) (hm : w.cell? ⟨m, 0, none⟩ = some (.func (.func 61) #[] #[])) : Calls Tryd.prog 62 #[.int .u8 (c.toNat : Int), .pointer (some ⟨m, 0, none⟩)] w fun e w' => e = .returned (.bool (odd c)) ∧ w = w' := by
  have HM := Lib.hid (matters_c c w)
  go_enter Tryd.func62, Tryd.ntmps62
  go_wp2_with fail
  refine HM.out.mono ?_
  rintro e w' ⟨rfl, rfl⟩
  go_wp2
  go_ret
  exact ⟨rfl, rfl⟩

theorem enter62 : ∀ args w, (callFunc 62 args).run Tryd.prog w = .ok (.enter 62 args) w := fun args w => by kernel_rfl
theorem count_odd (s : ByteArray) (hs : s.size ≤ maxLen) (m : Nat) (w : World) (hm : w.cell? ⟨m, 0, none⟩ = some (.func (.func 61) #[] #[])) :
    Calls Tryd.prog 23 #[.string s, .func (.func 62) #[] #[.pointer (some ⟨m, 0, none⟩)]] w fun e w' => e = .returned (.int .i64 (cnt odd (bs s) : Nat)) ∧ w = w' :=
  count_any 62 _ enter62 odd s hs w fun c => odd_c c m w hm

theorem begins126 (a b : ByteArray) (m n : Nat) (w : World) (ha : w.cell? ⟨m, 0, none⟩ = some (.string a)) (hb : w.cell? ⟨n, 0, none⟩ = some (.string b)) :
    Calls Tryd.prog 59 #[.int .u8 126, .pointer (some ⟨m, 0, none⟩), .pointer (some ⟨n, 0, none⟩)] w fun e w' => e = .returned (.tuple #[.bool (hd 126 (bs a)), .bool (hd 126 (bs b))]) ∧ ∃ q, w' = w.drewN q := by
  go_enter Tryd.func59, Tryd.ntmps59
  go_wp2_with fail
  go_quiet ((go_at_call 60; exact Calls.quiet_of_same ((prefix_c _ 126 _).mono fun _ _ h => ⟨h.1, h.2.symm⟩)))
  go_wp2
  go_ret2
  exact ⟨rfl, nq, rfl⟩
theorem begins94 (a b : ByteArray) (m n : Nat) (w : World) (ha : w.cell? ⟨m, 0, none⟩ = some (.string a)) (hb : w.cell? ⟨n, 0, none⟩ = some (.string b)) :
    Calls Tryd.prog 59 #[.int .u8 94, .pointer (some ⟨m, 0, none⟩), .pointer (some ⟨n, 0, none⟩)] w fun e w' => e = .returned (.tuple #[.bool (hd 94 (bs a)), .bool (hd 94 (bs b))]) ∧ ∃ q, w' = w.drewN q := by
  go_enter Tryd.func59, Tryd.ntmps59
  go_wp2_with fail
  go_quiet ((go_at_call 60; exact Calls.quiet_of_same ((prefix_c _ 94 _).mono fun _ _ h => ⟨h.1, h.2.symm⟩)))
  go_wp2
  go_ret2
  exact ⟨rfl, nq, rfl⟩
end Go.Proofs.YtgggbjkgpjcklaaDoor
