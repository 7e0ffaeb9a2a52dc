/-
  The document's texts, numbers, weights: the contracts. Helper text; the conditions are those typed.
-/
import Derived.Test.YtgggbjkgpjcklaaDoorRefA
import Derived.Sort.Walk0
namespace Go.Proofs.YtgggbjkgpjcklaaDoor
set_option linter.unusedVariables false
set_option linter.unusedSimpArgs false
open Go.RowKit

theorem less_B : ∀ a b : List UInt8, Op.bytesLess a b = decide (cmpB a b = -1)
  | [], [] => rfl
  | [], _ :: _ => rfl
  | _ :: _, [] => rfl
  | a :: l, b :: m => by
    unfold Op.bytesLess cmpB
    rw [less_B l m]
    by_cases h1 : a < b
    · simp [h1]
    · by_cases h2 : b < a
      · have h3 : a ≠ b := fun e => by subst e; exact h1 h2
        simp [h1, h2, h3]
      · have h3 : a = b := UInt8.toNat_inj.1 (by rw [UInt8.lt_iff_toNat_lt] at h1 h2; omega)
        subst h3
        simp [h1]
theorem cmpB_eq0 : ∀ a b : List UInt8, cmpB a b = 0 → a = b
  | [], [], _ => rfl
  | [], _ :: _, h => by cases h
  | _ :: _, [], h => by cases h
  | a :: l, b :: m, h => by
    unfold cmpB at h
    split at h
    · cases h
    · rename_i h1
      split at h
      · cases h
      · rename_i h2
        have h3 : a = b := UInt8.toNat_inj.1 (by rw [UInt8.lt_iff_toNat_lt] at h1 h2; omega)
        rw [h3, cmpB_eq0 l m h]

theorem text_c (a b : ByteArray) (w : World) : Calls Tryd.prog 63 #[.string a, .string b] w fun e w' => e = .returned (.int .i64 (cmpB (bs a) (bs b))) ∧ w = w' := by
  have h1 := less_B (bs a) (bs b)
  have h2 : (bs a == bs b) = decide (cmpB (bs a) (bs b) = 0) := by
    rw [Bool.eq_iff_iff, beq_iff_eq, decide_eq_true_iff]
    exact ⟨fun h => by rw [h]; exact cmpB_cmp.refl _, fun h => cmpB_eq0 _ _ h⟩
  rw [← bs_toList, ← bs_toList] at h1 h2
  have ht := cmpB_tri (bs a) (bs b)
  rw [← bs_toList, ← bs_toList] at ht ⊢
  generalize cmpB a.toList b.toList = c at *
  rcases ht with rfl | rfl | rfl
  · have B1 : Op.bytesLess a.toList b.toList = true := h1.trans (by decide)
    clear h1 h2
    go_enter Tryd.func63, Tryd.ntmps63
    go_wp2
    go_ret
    exact ⟨rfl, rfl⟩
  · have B1 : Op.bytesLess a.toList b.toList = false := h1.trans (by decide)
    have B2 : (a.toList == b.toList) = true := h2.trans (by decide)
    clear h1 h2
    go_enter Tryd.func63, Tryd.ntmps63
    go_wp2
    go_ret
    exact ⟨rfl, rfl⟩
  · have B1 : Op.bytesLess a.toList b.toList = false := h1.trans (by decide)
    have B2 : (a.toList == b.toList) = false := h2.trans (by decide)
    clear h1 h2
    go_enter Tryd.func63, Tryd.ntmps63
    go_wp2
    go_ret
    exact ⟨rfl, rfl⟩

theorem sign_c (n : Int) (w : World) : Calls Tryd.prog 51 #[.int .i64 n] w fun e w' => e = .returned (.int .i64 (sgn n)) ∧ w = w' := by
  generalize hs : sgn n = c
  have HS := Lib.hid hs
  clear hs
  rcases Int.lt_trichotomy n 0 with h | h | h
  · obtain rfl : c = -1 := by rw [← HS.out]; exact if_pos h
    go_enter Tryd.func51, Tryd.ntmps51
    go_wp2
    go_ret
    exact ⟨rfl, rfl⟩
  · subst h
    obtain rfl : c = 0 := by rw [← HS.out]; rfl
    go_enter Tryd.func51, Tryd.ntmps51
    go_wp2
    go_ret
    exact ⟨rfl, rfl⟩
  · have h' : ¬ n < 0 := by omega
    obtain rfl : c = 1 := by rw [← HS.out]; exact (if_neg h').trans (if_pos h)
    go_enter Tryd.func51, Tryd.ntmps51
    go_wp2
    go_ret
    exact ⟨rfl, rfl⟩

theorem bs_cons0 {s : ByteArray} (h : 0 < s.size) : bs s = s[0] :: (bs s).tail := by
  obtain ⟨l, hl⟩ := bs_cons h
  rw [hl]
  rfl
theorem bs_tail1 (s : ByteArray) : bs (s.extract 1 s.size) = (bs s).tail := by
  rw [bs_tail, List.drop_one]
theorem strip_yes {s : ByteArray} (h : 0 < s.size) (hc : s[0] = 48) : strip (bs s) = strip (bs (s.extract 1 s.size)) := by
  rw [bs_tail1, bs_cons0 h, hc]
  rfl
theorem strip_no {s : ByteArray} (h : 0 < s.size) (hc : s[0] ≠ 48) : strip (bs s) = bs s := by
  rw [bs_cons0 h]
  unfold strip
  rw [List.dropWhile_cons, if_neg (by simpa using hc)]
theorem strip_nil {s : ByteArray} (h : s.size = 0) : strip (bs s) = bs s := by
  rw [bs_nil.2 h]
  rfl

set_option maxHeartbeats 2000000 in
theorem number_c (a b : ByteArray) (ha : a.size ≤ maxLen) (hb : b.size ≤ maxLen) (w : World) :
    Calls Tryd.prog 48 #[.string a, .string b] w fun e w' => e = .returned (.int .i64 (cmpN (bs a) (bs b))) ∧ w = w' := by
  unfold maxLen at ha hb
  generalize hT : cmpN (bs a) (bs b) = T
  have HT := Lib.hid hT
  clear hT
  go_enter Tryd.func48, Tryd.ntmps48
  go_wp2
  go_loopw [0] (fun v wr => ∃ t : ByteArray, v = .string t ∧ t.size ≤ 9223372036854775807 ∧ w = wr ∧ Hid (strip (bs t) = strip (bs a))) (fun v _ => strLen v)
  case atStart => exact ⟨a, rfl, ha, rfl, rfl⟩
  case round =>
    obtain ⟨t, rfl, ht, rfl, HS⟩ := hrel
    by_cases hp : 0 < t.size
    · have hp' : (0 : Int) < (t.size : Int) := by omega
      have i1 : (1 : Int) ≤ (t.size : Int) := by omega
      by_cases hc : t[0] = 48
      · have hB : ((t[0].toNat : Int) == 48) = true := u8_eq.1 hc
        have HS2 : Hid (strip (bs (t.extract 1 t.size)) = strip (bs a)) := (strip_yes hp hc).symm.trans HS.out
        have sz := size_tail t 1
        clear hc HS
        obtain ⟨t2, e2⟩ : ∃ t2, t.extract 1 t.size = t2 := ⟨_, rfl⟩
        rw [e2] at HS2 sz
        have SZ := Lib.hid sz
        clear sz
        go_wp2
        go_roundw
        case rel => exact ⟨t2, rfl, by have := SZ.out; omega, trivial, HS2⟩
        case measure => have := SZ.out; simp only [strLen]; omega
      · have hB : ((t[0].toNat : Int) == 48) = false := u8_ne.1 hc
        have HA : Hid (strip (bs a) = bs t) := HS.out.symm.trans (strip_no hp hc)
        clear hc HS
        go_wp2
        go_loopw [1] (fun v wr => ∃ u : ByteArray, v = .string u ∧ u.size ≤ 9223372036854775807 ∧ w = wr ∧ Hid (strip (bs u) = strip (bs b))) (fun v _ => strLen v)
        case atStart => exact ⟨b, rfl, hb, rfl, rfl⟩
        case round =>
          obtain ⟨u, rfl, hu, rfl, HU⟩ := hrel
          by_cases hp : 0 < u.size
          · have hp' : (0 : Int) < (u.size : Int) := by omega
            have i1 : (1 : Int) ≤ (u.size : Int) := by omega
            by_cases hc : u[0] = 48
            · have hB : ((u[0].toNat : Int) == 48) = true := u8_eq.1 hc
              have HS2 : Hid (strip (bs (u.extract 1 u.size)) = strip (bs b)) := (strip_yes hp hc).symm.trans HU.out
              have sz := size_tail u 1
              clear hc HU
              obtain ⟨u2, e2⟩ : ∃ u2, u.extract 1 u.size = u2 := ⟨_, rfl⟩
              rw [e2] at HS2 sz
              have SZ := Lib.hid sz
              clear sz
              go_wp2
              go_roundw
              case rel => exact ⟨u2, rfl, by have := SZ.out; omega, trivial, HS2⟩
              case measure => have := SZ.out; simp only [strLen]; omega
            · have hB : ((u[0].toNat : Int) == 48) = false := u8_ne.1 hc
              have HV : Hid (strip (bs b) = bs u) := HU.out.symm.trans (strip_no hp hc)
              clear hc HU
              have hT : T = if t.size ≠ u.size then sgn ((t.size : Int) - (u.size : Int)) else cmpB (bs t) (bs u) := by
                rw [← HT.out]
                unfold cmpN
                rw [HA.out, HV.out, bs_length, bs_length]
              have C1 := Lib.hid (sign_c ((t.size : Int) - (u.size : Int)))
              have C2 := Lib.hid (text_c t u)
              by_cases hz : t.size = u.size
              · rw [if_neg (by simpa using hz)] at hT
                subst hT
                have hB2 : ((t.size : Int) != (u.size : Int)) = false := by simp; omega
                clear hz HA HV HT
                go_wp2_with fail
                refine (C2.out _).mono ?_
                rintro e w' ⟨rfl, rfl⟩
                go_wp2
                go_ret
                exact ⟨rfl, rfl⟩
              · rw [if_pos hz] at hT
                subst hT
                have hB2 : ((t.size : Int) != (u.size : Int)) = true := by simp; omega
                clear hz HA HV HT
                go_wp2_with fail
                refine (C1.out _).mono ?_
                rintro e w' ⟨rfl, rfl⟩
                go_wp2
                go_ret
                exact ⟨rfl, rfl⟩
          · have hp' : ¬ (0 : Int) < (u.size : Int) := by omega
            have HV : Hid (strip (bs b) = bs u) := HU.out.symm.trans (strip_nil (by omega))
            clear HU
            have hT : T = if t.size ≠ u.size then sgn ((t.size : Int) - (u.size : Int)) else cmpB (bs t) (bs u) := by
              rw [← HT.out]
              unfold cmpN
              rw [HA.out, HV.out, bs_length, bs_length]
            have C1 := Lib.hid (sign_c ((t.size : Int) - (u.size : Int)))
            have C2 := Lib.hid (text_c t u)
            by_cases hz : t.size = u.size
            · rw [if_neg (by simpa using hz)] at hT
              subst hT
              have hB2 : ((t.size : Int) != (u.size : Int)) = false := by simp; omega
              clear hz HA HV HT
              go_wp2_with fail
              refine (C2.out _).mono ?_
              rintro e w' ⟨rfl, rfl⟩
              go_wp2
              go_ret
              exact ⟨rfl, rfl⟩
            · rw [if_pos hz] at hT
              subst hT
              have hB2 : ((t.size : Int) != (u.size : Int)) = true := by simp; omega
              clear hz HA HV HT
              go_wp2_with fail
              refine (C1.out _).mono ?_
              rintro e w' ⟨rfl, rfl⟩
              go_wp2
              go_ret
              exact ⟨rfl, rfl⟩
    · have hp' : ¬ (0 : Int) < (t.size : Int) := by omega
      have HA : Hid (strip (bs a) = bs t) := HS.out.symm.trans (strip_nil (by omega))
      clear HS
      go_wp2
      go_loopw [1] (fun v wr => ∃ u : ByteArray, v = .string u ∧ u.size ≤ 9223372036854775807 ∧ w = wr ∧ Hid (strip (bs u) = strip (bs b))) (fun v _ => strLen v)
      case atStart => exact ⟨b, rfl, hb, rfl, rfl⟩
      case round =>
        obtain ⟨u, rfl, hu, rfl, HU⟩ := hrel
        by_cases hp : 0 < u.size
        · have hp' : (0 : Int) < (u.size : Int) := by omega
          have i1 : (1 : Int) ≤ (u.size : Int) := by omega
          by_cases hc : u[0] = 48
          · have hB : ((u[0].toNat : Int) == 48) = true := u8_eq.1 hc
            have HS2 : Hid (strip (bs (u.extract 1 u.size)) = strip (bs b)) := (strip_yes hp hc).symm.trans HU.out
            have sz := size_tail u 1
            clear hc HU
            obtain ⟨u2, e2⟩ : ∃ u2, u.extract 1 u.size = u2 := ⟨_, rfl⟩
            rw [e2] at HS2 sz
            have SZ := Lib.hid sz
            clear sz
            go_wp2
            go_roundw
            case rel => exact ⟨u2, rfl, by have := SZ.out; omega, trivial, HS2⟩
            case measure => have := SZ.out; simp only [strLen]; omega
          · have hB : ((u[0].toNat : Int) == 48) = false := u8_ne.1 hc
            have HV : Hid (strip (bs b) = bs u) := HU.out.symm.trans (strip_no hp hc)
            clear hc HU
            have hT : T = if t.size ≠ u.size then sgn ((t.size : Int) - (u.size : Int)) else cmpB (bs t) (bs u) := by
              rw [← HT.out]
              unfold cmpN
              rw [HA.out, HV.out, bs_length, bs_length]
            have C1 := Lib.hid (sign_c ((t.size : Int) - (u.size : Int)))
            have C2 := Lib.hid (text_c t u)
            by_cases hz : t.size = u.size
            · rw [if_neg (by simpa using hz)] at hT
              subst hT
              have hB2 : ((t.size : Int) != (u.size : Int)) = false := by simp; omega
              clear hz HA HV HT
              go_wp2_with fail
              refine (C2.out _).mono ?_
              rintro e w' ⟨rfl, rfl⟩
              go_wp2
              go_ret
              exact ⟨rfl, rfl⟩
            · rw [if_pos hz] at hT
              subst hT
              have hB2 : ((t.size : Int) != (u.size : Int)) = true := by simp; omega
              clear hz HA HV HT
              go_wp2_with fail
              refine (C1.out _).mono ?_
              rintro e w' ⟨rfl, rfl⟩
              go_wp2
              go_ret
              exact ⟨rfl, rfl⟩
        · have hp' : ¬ (0 : Int) < (u.size : Int) := by omega
          have HV : Hid (strip (bs b) = bs u) := HU.out.symm.trans (strip_nil (by omega))
          clear HU
          have hT : T = if t.size ≠ u.size then sgn ((t.size : Int) - (u.size : Int)) else cmpB (bs t) (bs u) := by
            rw [← HT.out]
            unfold cmpN
            rw [HA.out, HV.out, bs_length, bs_length]
          have C1 := Lib.hid (sign_c ((t.size : Int) - (u.size : Int)))
          have C2 := Lib.hid (text_c t u)
          by_cases hz : t.size = u.size
          · rw [if_neg (by simpa using hz)] at hT
            subst hT
            have hB2 : ((t.size : Int) != (u.size : Int)) = false := by simp; omega
            clear hz HA HV HT
            go_wp2_with fail
            refine (C2.out _).mono ?_
            rintro e w' ⟨rfl, rfl⟩
            go_wp2
            go_ret
            exact ⟨rfl, rfl⟩
          · rw [if_pos hz] at hT
            subst hT
            have hB2 : ((t.size : Int) != (u.size : Int)) = true := by simp; omega
            clear hz HA HV HT
            go_wp2_with fail
            refine (C1.out _).mono ?_
            rintro e w' ⟨rfl, rfl⟩
            go_wp2
            go_ret
            exact ⟨rfl, rfl⟩
end Go.Proofs.YtgggbjkgpjcklaaDoor
