/-
  Debian's texts, as the document has them: the contract. Helper text (printed by mk_refD.py); the conditions are those typed.
-/
import Derived.Test.YtgggbjkgpjcklaaDoorRefC
namespace Go.Proofs.YtgggbjkgpjcklaaDoor
set_option linter.unusedVariables false
set_option linter.unusedSimpArgs false
open Go.RowKit

theorem oth_w (l : List UInt8) : oth l = decide (weight l ≠ 0) := by
  cases l with
  | nil => rfl
  | cons c l =>
    by_cases h : dig c = true
    · simp [oth, h, weight_dig h]
    · have := weight_not (l := l) h
      simp [oth, h, this]
theorem weight_bd (l : List UInt8) : -1 ≤ weight l ∧ weight l ≤ 600 := by
  cases l with
  | nil => exact ⟨by decide, by decide⟩
  | cons c l =>
    have := c.toNat_lt
    simp only [weight]
    (repeat' split) <;> omega
theorem debT_nil : debT [] [] = 0 := by
  rw [debT_d rfl rfl]
  decide
theorem sgn_ne {x : Int} : sgn x ≠ 0 ↔ x ≠ 0 := not_congr sgn_zero
theorem below_drw {B : Nat} {w w' : World} (h : Below B w w') (n : Nat) : Below B w (w'.drewN n) := ⟨h.os, h.tape, h.output, h.size, h.block⟩
theorem dig_run {s : ByteArray} (h : oth (bs s) = false) (h0 : 0 < s.size) : 1 ≤ cnt dig (bs s) := by
  rw [bs_cons0 h0] at h ⊢
  exact cnt_pos (by simpa [oth] using h)

set_option maxHeartbeats 4000000 in
set_option maxRecDepth 100000 in
theorem rdeb_c (a0 b0 : ByteArray) (ha0 : a0.size ≤ maxLen) (hb0 : b0.size ≤ maxLen) (w : World) :
    Calls Tryd.prog 49 #[.string a0, .string b0] w fun e w' => e = .returned (.int .i64 (debT (bs a0) (bs b0))) ∧ Below w.heap.size w w' := by
  unfold maxLen at ha0 hb0
  generalize hT : debT (bs a0) (bs b0) = T
  have HT := Lib.hid hT
  clear hT
  go_enter Tryd.func49, Tryd.ntmps49
  go_wp2
  go_loopw [0, 1] (fun va vb wr => ∃ a b : ByteArray, va = .string a ∧ vb = .string b ∧ a.size ≤ 9223372036854775807 ∧ b.size ≤ 9223372036854775807 ∧ Hid (Below w.heap.size w wr) ∧ Hid (debT (bs a) (bs b) = T)) (fun va vb _ => strLen va + strLen vb)
  case atStart => exact ⟨a0, b0, rfl, rfl, ha0, hb0, Below.refl _ _, HT⟩
  case round =>
    clear HT
    obtain ⟨a, b, rfl, rfl, ha, hb, HB, HT⟩ := hrel
    obtain ⟨A, hA'⟩ : ∃ A, a.size + b.size = A := ⟨_, rfl⟩
    have hA := Lib.hid hA'
    by_cases hpa : 0 < a.size
    · have hpa' : (0 : Int) < (a.size : Int) := by omega
      have hp : 0 < A := by omega
      clear hA'
      go_wp2
      obtain ⟨wo, ewo⟩ : ∃ wo : World, wo = wr := ⟨_, rfl⟩
      rw [← ewo]
      rw [← ewo] at HB
      clear ewo
      have HB0 : Hid (Below w.heap.size w wo) := HB
      clear HB
      go_loopw [0, 1] (fun va vb wr => ∃ x y : ByteArray, va = .string x ∧ vb = .string y ∧ x.size ≤ 9223372036854775807 ∧ y.size ≤ 9223372036854775807 ∧ Hid (Below w.heap.size w wr) ∧ Hid (debT (bs x) (bs y) = T) ∧ Hid (x.size + y.size ≤ A) ∧ Hid (x.size + y.size < A ∨ 0 < x.size + y.size)) (fun va vb _ => strLen va + strLen vb)
      case atStart => exact ⟨_, b, rfl, rfl, ha, hb, HB0, HT, Nat.le_of_eq hA.out, .inr (by rw [hA.out]; exact hp)⟩
      case round =>
        clear HB0 HT
        obtain ⟨x, y, rfl, rfl, hxs, hys, HB, HT, HL, HK⟩ := hrel
        have HX := Lib.hid (other_c x)
        have HY := Lib.hid (other_c y)
        by_cases hx : weight (bs x) = 0
        · have hox : oth (bs x) = false := by rw [oth_w]; simpa using hx
          rw [hox] at HX
          by_cases hy : weight (bs y) = 0
          · have hoy : oth (bs y) = false := by rw [oth_w]; simpa using hy
            rw [hoy] at HY
            have HCA := Lib.hid (run_dig x (by unfold maxLen; omega))
            have HCB := Lib.hid (run_dig y (by unfold maxLen; omega))
            have la := cnt_le dig (bs x)
            have lb := cnt_le dig (bs y)
            rw [bs_length] at la lb
            have pn : 0 < x.size → 1 ≤ cnt dig (bs x) := fun h => dig_run hox h
            have pm : 0 < y.size → 1 ≤ cnt dig (bs y) := fun h => dig_run hoy h
            have hT2 := debT_d (a := bs x) (b := bs y) hx hy
            rw [HT.out, ← bs_head, ← bs_head, ← bs_drop, ← bs_drop] at hT2
            generalize cnt dig (bs x) = n at *
            generalize cnt dig (bs y) = m at *
            have i1 : (0 : Int) ≤ (n : Int) := by omega
            have i2 : (n : Int) ≤ (x.size : Int) := by omega
            have i3 : (0 : Int) ≤ (m : Int) := by omega
            have i4 : (m : Int) ≤ (y.size : Int) := by omega
            have za : (x.extract 0 n).size ≤ x.size := size_le
            have zb : (y.extract 0 m).size ≤ y.size := size_le
            have sa := size_tail x n
            have sb := size_tail y m
            have HN := Lib.hid (number_c (x.extract 0 n) (y.extract 0 m) (by unfold maxLen; omega) (by unfold maxLen; omega))
            generalize cmpN (bs (x.extract 0 n)) (bs (y.extract 0 m)) = c at hT2 HN
            obtain ⟨x2, e1⟩ : ∃ x2, x.extract n x.size = x2 := ⟨_, rfl⟩
            obtain ⟨y2, e2⟩ : ∃ y2, y.extract m y.size = y2 := ⟨_, rfl⟩
            rw [e1, e2] at hT2
            rw [e1] at sa
            rw [e2] at sb
            have PN := Lib.hid pn
            have PM := Lib.hid pm
            have SA := Lib.hid sa
            have SB := Lib.hid sb
            by_cases hc : c = 0
            · subst hc
              rw [if_neg (by simp)] at hT2
              have hT3 : debT (bs x2) (bs y2) = T := by
                by_cases hz : bs x2 = [] ∧ bs y2 = []
                · rw [if_pos hz] at hT2
                  rw [hz.1, hz.2, hT2, debT_nil]
                · rw [if_neg hz] at hT2
                  exact hT2.symm
              have HT3 := Lib.hid hT3
              clear hT2 hT3 pn pm sa sb za zb hx hy hox hoy HT
              go_wp2_with fail
              refine (HX.out _).mono ?_
              rintro e w' ⟨rfl, rfl⟩
              go_wp2_with fail
              refine (HY.out _).mono ?_
              rintro e w' ⟨rfl, rfl⟩
              go_wp2_with fail
              refine (HCA.out _).mono ?_
              rintro e w' ⟨rfl, rfl⟩
              go_wp2_with fail
              refine (HCB.out _).mono ?_
              rintro e w' ⟨rfl, rfl⟩
              go_wp2
              go_quiet ((go_at_call 48; exact Calls.quiet_of_same ((HN.out _).mono fun _ _ h => ⟨h.1, h.2.symm⟩)))
              go_wp2
              go_roundw
              case rel => exact ⟨x2, y2, rfl, rfl, by have := SA.out; omega, by have := SB.out; omega, below_drw HB.out _, HT3⟩
              case measure => have := SA.out; have := SB.out; have h1 := PN.out; have h2 := PM.out; have h3 := HL.out; have h4 := HK.out; have h5 := hA.out; rw [Hid] at *; simp only [strLen]; omega
            · rw [if_pos hc] at hT2
              subst hT2
              have hB : (T != 0) = true := by simpa using hc
              clear hc pn pm sa sb za zb hx hy hox hoy HT
              go_wp2_with fail
              refine (HX.out _).mono ?_
              rintro e w' ⟨rfl, rfl⟩
              go_wp2_with fail
              refine (HY.out _).mono ?_
              rintro e w' ⟨rfl, rfl⟩
              go_wp2_with fail
              refine (HCA.out _).mono ?_
              rintro e w' ⟨rfl, rfl⟩
              go_wp2_with fail
              refine (HCB.out _).mono ?_
              rintro e w' ⟨rfl, rfl⟩
              go_wp2
              go_quiet ((go_at_call 48; exact Calls.quiet_of_same ((HN.out _).mono fun _ _ h => ⟨h.1, h.2.symm⟩)))
              go_wp2
              go_ret
              exact ⟨rfl, below_drw HB.out _⟩
          · have hoy : oth (bs y) = true := by rw [oth_w]; simpa using hy
            rw [hoy] at HY
            clear hox hoy
            have bd1 := (weight_bd (bs x)).1
            have bd2 := (weight_bd (bs x)).2
            have bd3 := (weight_bd (bs y)).1
            have bd4 := (weight_bd (bs y)).2
            have HWA := Lib.hid (rweight_c x)
            have HWB := Lib.hid (rweight_c y)
            have HSG := Lib.hid (sign_c (weight (bs x) - weight (bs y)))
            have hT2 := debT_w (a := bs x) (b := bs y) (by exact .inr hy)
            rw [HT.out] at hT2
            by_cases hww : weight (bs x) = weight (bs y)
            · rw [if_neg (by simpa using hww)] at hT2
              have hsg : sgn (weight (bs x) - weight (bs y)) = 0 := by rw [hww, Int.sub_self]; rfl
              rw [hsg] at HSG
              have pa : 0 < x.size := by
                have : bs x ≠ [] := weight_ne (by rw [hww]; exact hy)
                rw [Ne, bs_nil] at this; omega
              have pb : 0 < y.size := by
                have : bs y ≠ [] := weight_ne (by exact hy)
                rw [Ne, bs_nil] at this; omega
              have ia : (1 : Int) ≤ (x.size : Int) := by omega
              have ib : (1 : Int) ≤ (y.size : Int) := by omega
              rw [← bs_tail1, ← bs_tail1] at hT2
              have sa := size_tail x 1
              have sb := size_tail y 1
              obtain ⟨x2, e1⟩ : ∃ x2, x.extract 1 x.size = x2 := ⟨_, rfl⟩
              obtain ⟨y2, e2⟩ : ∃ y2, y.extract 1 y.size = y2 := ⟨_, rfl⟩
              rw [e1] at hT2 sa
              rw [e2] at hT2 sb
              have HT2 := Lib.hid hT2.symm
              have SA := Lib.hid sa
              have SB := Lib.hid sb
              generalize weight (bs x) = wx at *
              generalize weight (bs y) = wy at *
              clear hT2 sa sb hsg hx hy hww HT
              go_wp2_with fail
              refine (HX.out _).mono ?_
              rintro e w' ⟨rfl, rfl⟩
              go_wp2_with fail
              refine (HY.out _).mono ?_
              rintro e w' ⟨rfl, rfl⟩
              go_wp2_with fail
              refine (HWA.out _).mono ?_
              rintro e w' ⟨rfl, rfl⟩
              go_wp2_with fail
              refine (HWB.out _).mono ?_
              rintro e w' ⟨rfl, rfl⟩
              go_wp2_with fail
              refine (HSG.out _).mono ?_
              rintro e w' ⟨rfl, rfl⟩
              go_wp2
              go_roundw
              case rel => exact ⟨x2, y2, rfl, rfl, by have := SA.out; omega, by have := SB.out; omega, HB, HT2, by have := SA.out; have := SB.out; have := HL.out; rw [Hid]; omega, by have := SA.out; have := SB.out; have := HL.out; rw [Hid]; omega⟩
              case measure => have := SA.out; have := SB.out; simp only [strLen]; omega
            · rw [if_pos hww] at hT2
              have hsg : sgn (weight (bs x) - weight (bs y)) ≠ 0 := sgn_ne.2 (by omega)
              rw [← hT2] at HSG hsg
              have hB : (T != 0) = true := by simpa using hsg
              generalize weight (bs x) = wx at *
              generalize weight (bs y) = wy at *
              clear hT2 hsg hx hy hww HT
              go_wp2_with fail
              refine (HX.out _).mono ?_
              rintro e w' ⟨rfl, rfl⟩
              go_wp2_with fail
              refine (HY.out _).mono ?_
              rintro e w' ⟨rfl, rfl⟩
              go_wp2_with fail
              refine (HWA.out _).mono ?_
              rintro e w' ⟨rfl, rfl⟩
              go_wp2_with fail
              refine (HWB.out _).mono ?_
              rintro e w' ⟨rfl, rfl⟩
              go_wp2_with fail
              refine (HSG.out _).mono ?_
              rintro e w' ⟨rfl, rfl⟩
              go_wp2
              go_ret
              exact ⟨rfl, HB.out⟩
        · have hox : oth (bs x) = true := by rw [oth_w]; simpa using hx
          rw [hox] at HX
          clear hox
          have hy : True := trivial
          generalize oth (bs y) = oy at HY
          have bd1 := (weight_bd (bs x)).1
          have bd2 := (weight_bd (bs x)).2
          have bd3 := (weight_bd (bs y)).1
          have bd4 := (weight_bd (bs y)).2
          have HWA := Lib.hid (rweight_c x)
          have HWB := Lib.hid (rweight_c y)
          have HSG := Lib.hid (sign_c (weight (bs x) - weight (bs y)))
          have hT2 := debT_w (a := bs x) (b := bs y) (by exact .inl hx)
          rw [HT.out] at hT2
          by_cases hww : weight (bs x) = weight (bs y)
          · rw [if_neg (by simpa using hww)] at hT2
            have hsg : sgn (weight (bs x) - weight (bs y)) = 0 := by rw [hww, Int.sub_self]; rfl
            rw [hsg] at HSG
            have pa : 0 < x.size := by
              have : bs x ≠ [] := weight_ne (by exact hx)
              rw [Ne, bs_nil] at this; omega
            have pb : 0 < y.size := by
              have : bs y ≠ [] := weight_ne (by rw [← hww]; exact hx)
              rw [Ne, bs_nil] at this; omega
            have ia : (1 : Int) ≤ (x.size : Int) := by omega
            have ib : (1 : Int) ≤ (y.size : Int) := by omega
            rw [← bs_tail1, ← bs_tail1] at hT2
            have sa := size_tail x 1
            have sb := size_tail y 1
            obtain ⟨x2, e1⟩ : ∃ x2, x.extract 1 x.size = x2 := ⟨_, rfl⟩
            obtain ⟨y2, e2⟩ : ∃ y2, y.extract 1 y.size = y2 := ⟨_, rfl⟩
            rw [e1] at hT2 sa
            rw [e2] at hT2 sb
            have HT2 := Lib.hid hT2.symm
            have SA := Lib.hid sa
            have SB := Lib.hid sb
            generalize weight (bs x) = wx at *
            generalize weight (bs y) = wy at *
            clear hT2 sa sb hsg hx hy hww HT
            go_wp2_with fail
            refine (HX.out _).mono ?_
            rintro e w' ⟨rfl, rfl⟩
            go_wp2_with fail
            refine (HY.out _).mono ?_
            rintro e w' ⟨rfl, rfl⟩
            go_wp2_with fail
            refine (HWA.out _).mono ?_
            rintro e w' ⟨rfl, rfl⟩
            go_wp2_with fail
            refine (HWB.out _).mono ?_
            rintro e w' ⟨rfl, rfl⟩
            go_wp2_with fail
            refine (HSG.out _).mono ?_
            rintro e w' ⟨rfl, rfl⟩
            go_wp2
            go_roundw
            case rel => exact ⟨x2, y2, rfl, rfl, by have := SA.out; omega, by have := SB.out; omega, HB, HT2, by have := SA.out; have := SB.out; have := HL.out; rw [Hid]; omega, by have := SA.out; have := SB.out; have := HL.out; rw [Hid]; omega⟩
            case measure => have := SA.out; have := SB.out; simp only [strLen]; omega
          · rw [if_pos hww] at hT2
            have hsg : sgn (weight (bs x) - weight (bs y)) ≠ 0 := sgn_ne.2 (by omega)
            rw [← hT2] at HSG hsg
            have hB : (T != 0) = true := by simpa using hsg
            generalize weight (bs x) = wx at *
            generalize weight (bs y) = wy at *
            clear hT2 hsg hx hy hww HT
            go_wp2_with fail
            refine (HX.out _).mono ?_
            rintro e w' ⟨rfl, rfl⟩
            go_wp2_with fail
            refine (HY.out _).mono ?_
            rintro e w' ⟨rfl, rfl⟩
            go_wp2_with fail
            refine (HWA.out _).mono ?_
            rintro e w' ⟨rfl, rfl⟩
            go_wp2_with fail
            refine (HWB.out _).mono ?_
            rintro e w' ⟨rfl, rfl⟩
            go_wp2_with fail
            refine (HSG.out _).mono ?_
            rintro e w' ⟨rfl, rfl⟩
            go_wp2
            go_ret
            exact ⟨rfl, HB.out⟩
    · have hpa' : a.size = 0 := by omega
      obtain rfl := bs_zero hpa'
      clear hpa'
      by_cases hpb : 0 < b.size
      · have hpb' : (0 : Int) < (b.size : Int) := by omega
        have hp : 0 < A := by omega
        clear hpa hA'
        go_wp2
        obtain ⟨wo, ewo⟩ : ∃ wo : World, wo = wr := ⟨_, rfl⟩
        rw [← ewo]
        rw [← ewo] at HB
        clear ewo
        have HB0 : Hid (Below w.heap.size w wo) := HB
        clear HB
        go_loopw [0, 1] (fun va vb wr => ∃ x y : ByteArray, va = .string x ∧ vb = .string y ∧ x.size ≤ 9223372036854775807 ∧ y.size ≤ 9223372036854775807 ∧ Hid (Below w.heap.size w wr) ∧ Hid (debT (bs x) (bs y) = T) ∧ Hid (x.size + y.size ≤ A) ∧ Hid (x.size + y.size < A ∨ 0 < x.size + y.size)) (fun va vb _ => strLen va + strLen vb)
        case atStart => exact ⟨_, b, rfl, rfl, ha, hb, HB0, HT, Nat.le_of_eq hA.out, .inr (by rw [hA.out]; exact hp)⟩
        case round =>
          clear HB0 HT
          obtain ⟨x, y, rfl, rfl, hxs, hys, HB, HT, HL, HK⟩ := hrel
          have HX := Lib.hid (other_c x)
          have HY := Lib.hid (other_c y)
          by_cases hx : weight (bs x) = 0
          · have hox : oth (bs x) = false := by rw [oth_w]; simpa using hx
            rw [hox] at HX
            by_cases hy : weight (bs y) = 0
            · have hoy : oth (bs y) = false := by rw [oth_w]; simpa using hy
              rw [hoy] at HY
              have HCA := Lib.hid (run_dig x (by unfold maxLen; omega))
              have HCB := Lib.hid (run_dig y (by unfold maxLen; omega))
              have la := cnt_le dig (bs x)
              have lb := cnt_le dig (bs y)
              rw [bs_length] at la lb
              have pn : 0 < x.size → 1 ≤ cnt dig (bs x) := fun h => dig_run hox h
              have pm : 0 < y.size → 1 ≤ cnt dig (bs y) := fun h => dig_run hoy h
              have hT2 := debT_d (a := bs x) (b := bs y) hx hy
              rw [HT.out, ← bs_head, ← bs_head, ← bs_drop, ← bs_drop] at hT2
              generalize cnt dig (bs x) = n at *
              generalize cnt dig (bs y) = m at *
              have i1 : (0 : Int) ≤ (n : Int) := by omega
              have i2 : (n : Int) ≤ (x.size : Int) := by omega
              have i3 : (0 : Int) ≤ (m : Int) := by omega
              have i4 : (m : Int) ≤ (y.size : Int) := by omega
              have za : (x.extract 0 n).size ≤ x.size := size_le
              have zb : (y.extract 0 m).size ≤ y.size := size_le
              have sa := size_tail x n
              have sb := size_tail y m
              have HN := Lib.hid (number_c (x.extract 0 n) (y.extract 0 m) (by unfold maxLen; omega) (by unfold maxLen; omega))
              generalize cmpN (bs (x.extract 0 n)) (bs (y.extract 0 m)) = c at hT2 HN
              obtain ⟨x2, e1⟩ : ∃ x2, x.extract n x.size = x2 := ⟨_, rfl⟩
              obtain ⟨y2, e2⟩ : ∃ y2, y.extract m y.size = y2 := ⟨_, rfl⟩
              rw [e1, e2] at hT2
              rw [e1] at sa
              rw [e2] at sb
              have PN := Lib.hid pn
              have PM := Lib.hid pm
              have SA := Lib.hid sa
              have SB := Lib.hid sb
              by_cases hc : c = 0
              · subst hc
                rw [if_neg (by simp)] at hT2
                have hT3 : debT (bs x2) (bs y2) = T := by
                  by_cases hz : bs x2 = [] ∧ bs y2 = []
                  · rw [if_pos hz] at hT2
                    rw [hz.1, hz.2, hT2, debT_nil]
                  · rw [if_neg hz] at hT2
                    exact hT2.symm
                have HT3 := Lib.hid hT3
                clear hT2 hT3 pn pm sa sb za zb hx hy hox hoy HT
                go_wp2_with fail
                refine (HX.out _).mono ?_
                rintro e w' ⟨rfl, rfl⟩
                go_wp2_with fail
                refine (HY.out _).mono ?_
                rintro e w' ⟨rfl, rfl⟩
                go_wp2_with fail
                refine (HCA.out _).mono ?_
                rintro e w' ⟨rfl, rfl⟩
                go_wp2_with fail
                refine (HCB.out _).mono ?_
                rintro e w' ⟨rfl, rfl⟩
                go_wp2
                go_quiet ((go_at_call 48; exact Calls.quiet_of_same ((HN.out _).mono fun _ _ h => ⟨h.1, h.2.symm⟩)))
                go_wp2
                go_roundw
                case rel => exact ⟨x2, y2, rfl, rfl, by have := SA.out; omega, by have := SB.out; omega, below_drw HB.out _, HT3⟩
                case measure => have := SA.out; have := SB.out; have h1 := PN.out; have h2 := PM.out; have h3 := HL.out; have h4 := HK.out; have h5 := hA.out; rw [Hid] at *; simp only [strLen]; omega
              · rw [if_pos hc] at hT2
                subst hT2
                have hB : (T != 0) = true := by simpa using hc
                clear hc pn pm sa sb za zb hx hy hox hoy HT
                go_wp2_with fail
                refine (HX.out _).mono ?_
                rintro e w' ⟨rfl, rfl⟩
                go_wp2_with fail
                refine (HY.out _).mono ?_
                rintro e w' ⟨rfl, rfl⟩
                go_wp2_with fail
                refine (HCA.out _).mono ?_
                rintro e w' ⟨rfl, rfl⟩
                go_wp2_with fail
                refine (HCB.out _).mono ?_
                rintro e w' ⟨rfl, rfl⟩
                go_wp2
                go_quiet ((go_at_call 48; exact Calls.quiet_of_same ((HN.out _).mono fun _ _ h => ⟨h.1, h.2.symm⟩)))
                go_wp2
                go_ret
                exact ⟨rfl, below_drw HB.out _⟩
            · have hoy : oth (bs y) = true := by rw [oth_w]; simpa using hy
              rw [hoy] at HY
              clear hox hoy
              have bd1 := (weight_bd (bs x)).1
              have bd2 := (weight_bd (bs x)).2
              have bd3 := (weight_bd (bs y)).1
              have bd4 := (weight_bd (bs y)).2
              have HWA := Lib.hid (rweight_c x)
              have HWB := Lib.hid (rweight_c y)
              have HSG := Lib.hid (sign_c (weight (bs x) - weight (bs y)))
              have hT2 := debT_w (a := bs x) (b := bs y) (by exact .inr hy)
              rw [HT.out] at hT2
              by_cases hww : weight (bs x) = weight (bs y)
              · rw [if_neg (by simpa using hww)] at hT2
                have hsg : sgn (weight (bs x) - weight (bs y)) = 0 := by rw [hww, Int.sub_self]; rfl
                rw [hsg] at HSG
                have pa : 0 < x.size := by
                  have : bs x ≠ [] := weight_ne (by rw [hww]; exact hy)
                  rw [Ne, bs_nil] at this; omega
                have pb : 0 < y.size := by
                  have : bs y ≠ [] := weight_ne (by exact hy)
                  rw [Ne, bs_nil] at this; omega
                have ia : (1 : Int) ≤ (x.size : Int) := by omega
                have ib : (1 : Int) ≤ (y.size : Int) := by omega
                rw [← bs_tail1, ← bs_tail1] at hT2
                have sa := size_tail x 1
                have sb := size_tail y 1
                obtain ⟨x2, e1⟩ : ∃ x2, x.extract 1 x.size = x2 := ⟨_, rfl⟩
                obtain ⟨y2, e2⟩ : ∃ y2, y.extract 1 y.size = y2 := ⟨_, rfl⟩
                rw [e1] at hT2 sa
                rw [e2] at hT2 sb
                have HT2 := Lib.hid hT2.symm
                have SA := Lib.hid sa
                have SB := Lib.hid sb
                generalize weight (bs x) = wx at *
                generalize weight (bs y) = wy at *
                clear hT2 sa sb hsg hx hy hww HT
                go_wp2_with fail
                refine (HX.out _).mono ?_
                rintro e w' ⟨rfl, rfl⟩
                go_wp2_with fail
                refine (HY.out _).mono ?_
                rintro e w' ⟨rfl, rfl⟩
                go_wp2_with fail
                refine (HWA.out _).mono ?_
                rintro e w' ⟨rfl, rfl⟩
                go_wp2_with fail
                refine (HWB.out _).mono ?_
                rintro e w' ⟨rfl, rfl⟩
                go_wp2_with fail
                refine (HSG.out _).mono ?_
                rintro e w' ⟨rfl, rfl⟩
                go_wp2
                go_roundw
                case rel => exact ⟨x2, y2, rfl, rfl, by have := SA.out; omega, by have := SB.out; omega, HB, HT2, by have := SA.out; have := SB.out; have := HL.out; rw [Hid]; omega, by have := SA.out; have := SB.out; have := HL.out; rw [Hid]; omega⟩
                case measure => have := SA.out; have := SB.out; simp only [strLen]; omega
              · rw [if_pos hww] at hT2
                have hsg : sgn (weight (bs x) - weight (bs y)) ≠ 0 := sgn_ne.2 (by omega)
                rw [← hT2] at HSG hsg
                have hB : (T != 0) = true := by simpa using hsg
                generalize weight (bs x) = wx at *
                generalize weight (bs y) = wy at *
                clear hT2 hsg hx hy hww HT
                go_wp2_with fail
                refine (HX.out _).mono ?_
                rintro e w' ⟨rfl, rfl⟩
                go_wp2_with fail
                refine (HY.out _).mono ?_
                rintro e w' ⟨rfl, rfl⟩
                go_wp2_with fail
                refine (HWA.out _).mono ?_
                rintro e w' ⟨rfl, rfl⟩
                go_wp2_with fail
                refine (HWB.out _).mono ?_
                rintro e w' ⟨rfl, rfl⟩
                go_wp2_with fail
                refine (HSG.out _).mono ?_
                rintro e w' ⟨rfl, rfl⟩
                go_wp2
                go_ret
                exact ⟨rfl, HB.out⟩
          · have hox : oth (bs x) = true := by rw [oth_w]; simpa using hx
            rw [hox] at HX
            clear hox
            have hy : True := trivial
            generalize oth (bs y) = oy at HY
            have bd1 := (weight_bd (bs x)).1
            have bd2 := (weight_bd (bs x)).2
            have bd3 := (weight_bd (bs y)).1
            have bd4 := (weight_bd (bs y)).2
            have HWA := Lib.hid (rweight_c x)
            have HWB := Lib.hid (rweight_c y)
            have HSG := Lib.hid (sign_c (weight (bs x) - weight (bs y)))
            have hT2 := debT_w (a := bs x) (b := bs y) (by exact .inl hx)
            rw [HT.out] at hT2
            by_cases hww : weight (bs x) = weight (bs y)
            · rw [if_neg (by simpa using hww)] at hT2
              have hsg : sgn (weight (bs x) - weight (bs y)) = 0 := by rw [hww, Int.sub_self]; rfl
              rw [hsg] at HSG
              have pa : 0 < x.size := by
                have : bs x ≠ [] := weight_ne (by exact hx)
                rw [Ne, bs_nil] at this; omega
              have pb : 0 < y.size := by
                have : bs y ≠ [] := weight_ne (by rw [← hww]; exact hx)
                rw [Ne, bs_nil] at this; omega
              have ia : (1 : Int) ≤ (x.size : Int) := by omega
              have ib : (1 : Int) ≤ (y.size : Int) := by omega
              rw [← bs_tail1, ← bs_tail1] at hT2
              have sa := size_tail x 1
              have sb := size_tail y 1
              obtain ⟨x2, e1⟩ : ∃ x2, x.extract 1 x.size = x2 := ⟨_, rfl⟩
              obtain ⟨y2, e2⟩ : ∃ y2, y.extract 1 y.size = y2 := ⟨_, rfl⟩
              rw [e1] at hT2 sa
              rw [e2] at hT2 sb
              have HT2 := Lib.hid hT2.symm
              have SA := Lib.hid sa
              have SB := Lib.hid sb
              generalize weight (bs x) = wx at *
              generalize weight (bs y) = wy at *
              clear hT2 sa sb hsg hx hy hww HT
              go_wp2_with fail
              refine (HX.out _).mono ?_
              rintro e w' ⟨rfl, rfl⟩
              go_wp2_with fail
              refine (HY.out _).mono ?_
              rintro e w' ⟨rfl, rfl⟩
              go_wp2_with fail
              refine (HWA.out _).mono ?_
              rintro e w' ⟨rfl, rfl⟩
              go_wp2_with fail
              refine (HWB.out _).mono ?_
              rintro e w' ⟨rfl, rfl⟩
              go_wp2_with fail
              refine (HSG.out _).mono ?_
              rintro e w' ⟨rfl, rfl⟩
              go_wp2
              go_roundw
              case rel => exact ⟨x2, y2, rfl, rfl, by have := SA.out; omega, by have := SB.out; omega, HB, HT2, by have := SA.out; have := SB.out; have := HL.out; rw [Hid]; omega, by have := SA.out; have := SB.out; have := HL.out; rw [Hid]; omega⟩
              case measure => have := SA.out; have := SB.out; simp only [strLen]; omega
            · rw [if_pos hww] at hT2
              have hsg : sgn (weight (bs x) - weight (bs y)) ≠ 0 := sgn_ne.2 (by omega)
              rw [← hT2] at HSG hsg
              have hB : (T != 0) = true := by simpa using hsg
              generalize weight (bs x) = wx at *
              generalize weight (bs y) = wy at *
              clear hT2 hsg hx hy hww HT
              go_wp2_with fail
              refine (HX.out _).mono ?_
              rintro e w' ⟨rfl, rfl⟩
              go_wp2_with fail
              refine (HY.out _).mono ?_
              rintro e w' ⟨rfl, rfl⟩
              go_wp2_with fail
              refine (HWA.out _).mono ?_
              rintro e w' ⟨rfl, rfl⟩
              go_wp2_with fail
              refine (HWB.out _).mono ?_
              rintro e w' ⟨rfl, rfl⟩
              go_wp2_with fail
              refine (HSG.out _).mono ?_
              rintro e w' ⟨rfl, rfl⟩
              go_wp2
              go_ret
              exact ⟨rfl, HB.out⟩
      · have hpb' : b.size = 0 := by omega
        obtain rfl := bs_zero hpb'
        obtain rfl : T = 0 := by rw [← HT.out]; exact debT_nil
        clear hpa hpb hpb' hA' hA
        go_wp2
        go_ret
        exact ⟨rfl, HB.out⟩
end Go.Proofs.YtgggbjkgpjcklaaDoor
