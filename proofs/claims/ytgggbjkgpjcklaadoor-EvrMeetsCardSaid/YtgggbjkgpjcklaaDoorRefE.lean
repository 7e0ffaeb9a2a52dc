/-
  rpm's texts, as the document has them: the contract. Helper text (printed by mk_refE.py); the conditions are those typed.
-/
import Derived.Test.YtgggbjkgpjcklaaDoorRefD
namespace Go.Proofs.YtgggbjkgpjcklaaDoor
set_option linter.unusedVariables false
set_option linter.unusedSimpArgs false
open Go.RowKit

theorem skip_first {s T : ByteArray} (h : bs T = skip (bs s)) (hp : 0 < T.size) : odd T[0] = false := by
  rw [bs_cons0 hp] at h
  exact skip_odd h.symm
theorem skip_size {s T : ByteArray} (h : bs T = skip (bs s)) : T.size ≤ s.size := by
  have := skip_le (bs s)
  rw [← h, bs_length, bs_length] at this
  exact this
theorem dg126 : dig 126 = false := by decide
theorem dg94 : dig 94 = false := by decide

set_option maxHeartbeats 8000000 in
set_option maxRecDepth 100000 in
theorem rrpm_c (a0 b0 : ByteArray) (ha0 : a0.size ≤ maxLen) (hb0 : b0.size ≤ maxLen) (w : World) :
    Calls Tryd.prog 50 #[.string a0, .string b0] w fun e w' => e = .returned (.int .i64 (rpmT (bs a0) (bs b0))) ∧ Below w.heap.size w w' := by
  unfold maxLen at ha0 hb0
  generalize hT : rpmT (bs a0) (bs b0) = T
  have HT := Lib.hid hT
  clear hT
  go_enter Tryd.func50, Tryd.ntmps50
  go_wp2
  go_loopw [0, 1] (fun va vb wr => ∃ a b : ByteArray, va = .string a ∧ vb = .string b ∧ a.size ≤ 9223372036854775807 ∧ b.size ≤ 9223372036854775807 ∧ Hid (Below w.heap.size w wr) ∧ Hid (rpmT (bs a) (bs b) = T)) (fun va vb _ => strLen va + strLen vb)
  case atStart => exact ⟨a0, b0, rfl, rfl, ha0, hb0, Below.refl _ _, HT⟩
  case round =>
    clear HT
    obtain ⟨a, b, rfl, rfl, ha, hb, HB, HT0⟩ := hrel
    obtain ⟨P, hP⟩ : ∃ P : ByteArray, bs P = skip (bs a) := ⟨⟨(skip (bs a)).toArray⟩, rfl⟩
    obtain ⟨Q, hQ⟩ : ∃ Q : ByteArray, bs Q = skip (bs b) := ⟨⟨(skip (bs b)).toArray⟩, rfl⟩
    have HA := Lib.hid (skipped_c a P hP ha)
    have HBB := Lib.hid (skipped_c b Q hQ hb)
    have hPs := skip_size hP
    have hQs := skip_size hQ
    have hT := HT0.out
    rw [rpmT_eq, ← hP, ← hQ] at hT
    have HT := Lib.hid hT
    have HP := Lib.hid hP
    clear hT hQ HT0
    clear hP
    by_cases Pp : 0 < P.size
    · by_cases Pt : P[0] = 126
      · by_cases Qp : 0 < Q.size
        · by_cases Qt : Q[0] = 126
          · have hT2 : rpmT (bs (P.extract 1 P.size)) (bs (Q.extract 1 Q.size)) = T := by
              rw [bs_tail1, bs_tail1, ← HT.out]
              rw [bs_cons0 Pp, bs_cons0 Qp]
              simp [rpmS, Pt, Qt]
            have Pp' : (0 : Int) < (P.size : Int) := by omega
            have Pz : ((P.size : Int) == 0) = false := beq_eq_false_iff_ne.2 (by omega)
            have P1 : (1 : Int) ≤ (P.size : Int) := by omega
            have PB1 : ((P[0].toNat : Int) == 126) = true := u8_eq.1 Pt
            have Qp' : (0 : Int) < (Q.size : Int) := by omega
            have Qz : ((Q.size : Int) == 0) = false := beq_eq_false_iff_ne.2 (by omega)
            have Q1 : (1 : Int) ≤ (Q.size : Int) := by omega
            have QB1 : ((Q[0].toNat : Int) == 126) = true := u8_eq.1 Qt
            have sa := size_tail P 1
            have sb := size_tail Q 1
            obtain ⟨P2, e1⟩ : ∃ P2, P.extract 1 P.size = P2 := ⟨_, rfl⟩
            obtain ⟨Q2, e2⟩ : ∃ Q2, Q.extract 1 Q.size = Q2 := ⟨_, rfl⟩
            rw [e1] at hT2 sa
            rw [e2] at hT2 sb
            have HT2 := Lib.hid hT2
            have SA := Lib.hid sa
            have SB := Lib.hid sb
            clear hT2 sa sb HT Pt Qt
            go_wp2_with fail
            refine (HA.out _).mono ?_
            rintro e w' ⟨rfl, rfl⟩
            go_wp2_with fail
            refine (HBB.out _).mono ?_
            rintro e w' ⟨rfl, rfl⟩
            go_wp2
            go_roundw
            case rel => exact ⟨P2, Q2, rfl, rfl, by have := SA.out; omega, by have := SB.out; omega, HB, HT2⟩
            case measure => have := SA.out; have := SB.out; simp only [strLen]; omega
          · by_cases Qc : Q[0] = 94
            · obtain rfl : T = -1 := by
                rw [← HT.out]
                rw [bs_cons0 Pp, bs_cons0 Qp]
                simp [rpmS, Pt, Qt, Qc]
              clear HT
              have Pp' : (0 : Int) < (P.size : Int) := by omega
              have Pz : ((P.size : Int) == 0) = false := beq_eq_false_iff_ne.2 (by omega)
              have P1 : (1 : Int) ≤ (P.size : Int) := by omega
              have PB1 : ((P[0].toNat : Int) == 126) = true := u8_eq.1 Pt
              have Qp' : (0 : Int) < (Q.size : Int) := by omega
              have Qz : ((Q.size : Int) == 0) = false := beq_eq_false_iff_ne.2 (by omega)
              have Q1 : (1 : Int) ≤ (Q.size : Int) := by omega
              have QB1 : ((Q[0].toNat : Int) == 126) = false := u8_ne.1 Qt
              have QB2 : ((Q[0].toNat : Int) == 94) = true := u8_eq.1 Qc
              clear Pt Qt Qc
              go_wp2_with fail
              refine (HA.out _).mono ?_
              rintro e w' ⟨rfl, rfl⟩
              go_wp2_with fail
              refine (HBB.out _).mono ?_
              rintro e w' ⟨rfl, rfl⟩
              go_wp2
              go_ret
              exact ⟨rfl, HB.out⟩
            · obtain rfl : T = -1 := by
                rw [← HT.out]
                rw [bs_cons0 Pp, bs_cons0 Qp]
                simp [rpmS, Pt, Qt, Qc]
              clear HT
              have Pp' : (0 : Int) < (P.size : Int) := by omega
              have Pz : ((P.size : Int) == 0) = false := beq_eq_false_iff_ne.2 (by omega)
              have P1 : (1 : Int) ≤ (P.size : Int) := by omega
              have PB1 : ((P[0].toNat : Int) == 126) = true := u8_eq.1 Pt
              have Qp' : (0 : Int) < (Q.size : Int) := by omega
              have Qz : ((Q.size : Int) == 0) = false := beq_eq_false_iff_ne.2 (by omega)
              have Q1 : (1 : Int) ≤ (Q.size : Int) := by omega
              have QB1 : ((Q[0].toNat : Int) == 126) = false := u8_ne.1 Qt
              have QB2 : ((Q[0].toNat : Int) == 94) = false := u8_ne.1 Qc
              clear Pt Qt Qc
              go_wp2_with fail
              refine (HA.out _).mono ?_
              rintro e w' ⟨rfl, rfl⟩
              go_wp2_with fail
              refine (HBB.out _).mono ?_
              rintro e w' ⟨rfl, rfl⟩
              go_wp2
              go_ret
              exact ⟨rfl, HB.out⟩
        · obtain rfl := bs_zero (show Q.size = 0 by omega)
          obtain rfl : T = -1 := by
            rw [← HT.out]
            rw [bs_cons0 Pp]
            rw [show bs (⟨#[]⟩ : ByteArray) = [] from rfl]
            simp [rpmS, Pt]
          clear HT
          have Pp' : (0 : Int) < (P.size : Int) := by omega
          have Pz : ((P.size : Int) == 0) = false := beq_eq_false_iff_ne.2 (by omega)
          have P1 : (1 : Int) ≤ (P.size : Int) := by omega
          have PB1 : ((P[0].toNat : Int) == 126) = true := u8_eq.1 Pt
          clear Pt Qp
          go_wp2_with fail
          refine (HA.out _).mono ?_
          rintro e w' ⟨rfl, rfl⟩
          go_wp2_with fail
          refine (HBB.out _).mono ?_
          rintro e w' ⟨rfl, rfl⟩
          go_wp2
          go_ret
          exact ⟨rfl, HB.out⟩
      · by_cases Pc : P[0] = 94
        · by_cases Qp : 0 < Q.size
          · by_cases Qt : Q[0] = 126
            · obtain rfl : T = 1 := by
                rw [← HT.out]
                rw [bs_cons0 Pp, bs_cons0 Qp]
                simp [rpmS, Pt, Pc, Qt]
              clear HT
              have Pp' : (0 : Int) < (P.size : Int) := by omega
              have Pz : ((P.size : Int) == 0) = false := beq_eq_false_iff_ne.2 (by omega)
              have P1 : (1 : Int) ≤ (P.size : Int) := by omega
              have PB1 : ((P[0].toNat : Int) == 126) = false := u8_ne.1 Pt
              have PB2 : ((P[0].toNat : Int) == 94) = true := u8_eq.1 Pc
              have Qp' : (0 : Int) < (Q.size : Int) := by omega
              have Qz : ((Q.size : Int) == 0) = false := beq_eq_false_iff_ne.2 (by omega)
              have Q1 : (1 : Int) ≤ (Q.size : Int) := by omega
              have QB1 : ((Q[0].toNat : Int) == 126) = true := u8_eq.1 Qt
              clear Pt Pc Qt
              go_wp2_with fail
              refine (HA.out _).mono ?_
              rintro e w' ⟨rfl, rfl⟩
              go_wp2_with fail
              refine (HBB.out _).mono ?_
              rintro e w' ⟨rfl, rfl⟩
              go_wp2
              go_ret
              exact ⟨rfl, HB.out⟩
            · by_cases Qc : Q[0] = 94
              · have hT2 : rpmT (bs (P.extract 1 P.size)) (bs (Q.extract 1 Q.size)) = T := by
                  rw [bs_tail1, bs_tail1, ← HT.out]
                  rw [bs_cons0 Pp, bs_cons0 Qp]
                  simp [rpmS, Pt, Pc, Qt, Qc]
                have Pp' : (0 : Int) < (P.size : Int) := by omega
                have Pz : ((P.size : Int) == 0) = false := beq_eq_false_iff_ne.2 (by omega)
                have P1 : (1 : Int) ≤ (P.size : Int) := by omega
                have PB1 : ((P[0].toNat : Int) == 126) = false := u8_ne.1 Pt
                have PB2 : ((P[0].toNat : Int) == 94) = true := u8_eq.1 Pc
                have Qp' : (0 : Int) < (Q.size : Int) := by omega
                have Qz : ((Q.size : Int) == 0) = false := beq_eq_false_iff_ne.2 (by omega)
                have Q1 : (1 : Int) ≤ (Q.size : Int) := by omega
                have QB1 : ((Q[0].toNat : Int) == 126) = false := u8_ne.1 Qt
                have QB2 : ((Q[0].toNat : Int) == 94) = true := u8_eq.1 Qc
                have sa := size_tail P 1
                have sb := size_tail Q 1
                obtain ⟨P2, e1⟩ : ∃ P2, P.extract 1 P.size = P2 := ⟨_, rfl⟩
                obtain ⟨Q2, e2⟩ : ∃ Q2, Q.extract 1 Q.size = Q2 := ⟨_, rfl⟩
                rw [e1] at hT2 sa
                rw [e2] at hT2 sb
                have HT2 := Lib.hid hT2
                have SA := Lib.hid sa
                have SB := Lib.hid sb
                clear hT2 sa sb HT Pt Pc Qt Qc
                go_wp2_with fail
                refine (HA.out _).mono ?_
                rintro e w' ⟨rfl, rfl⟩
                go_wp2_with fail
                refine (HBB.out _).mono ?_
                rintro e w' ⟨rfl, rfl⟩
                go_wp2
                go_roundw
                case rel => exact ⟨P2, Q2, rfl, rfl, by have := SA.out; omega, by have := SB.out; omega, HB, HT2⟩
                case measure => have := SA.out; have := SB.out; simp only [strLen]; omega
              · obtain rfl : T = -1 := by
                  rw [← HT.out]
                  rw [bs_cons0 Pp, bs_cons0 Qp]
                  simp [rpmS, Pt, Pc, Qt, Qc]
                clear HT
                have Pp' : (0 : Int) < (P.size : Int) := by omega
                have Pz : ((P.size : Int) == 0) = false := beq_eq_false_iff_ne.2 (by omega)
                have P1 : (1 : Int) ≤ (P.size : Int) := by omega
                have PB1 : ((P[0].toNat : Int) == 126) = false := u8_ne.1 Pt
                have PB2 : ((P[0].toNat : Int) == 94) = true := u8_eq.1 Pc
                have Qp' : (0 : Int) < (Q.size : Int) := by omega
                have Qz : ((Q.size : Int) == 0) = false := beq_eq_false_iff_ne.2 (by omega)
                have Q1 : (1 : Int) ≤ (Q.size : Int) := by omega
                have QB1 : ((Q[0].toNat : Int) == 126) = false := u8_ne.1 Qt
                have QB2 : ((Q[0].toNat : Int) == 94) = false := u8_ne.1 Qc
                clear Pt Pc Qt Qc
                go_wp2_with fail
                refine (HA.out _).mono ?_
                rintro e w' ⟨rfl, rfl⟩
                go_wp2_with fail
                refine (HBB.out _).mono ?_
                rintro e w' ⟨rfl, rfl⟩
                go_wp2
                go_ret
                exact ⟨rfl, HB.out⟩
          · obtain rfl := bs_zero (show Q.size = 0 by omega)
            obtain rfl : T = 1 := by
              rw [← HT.out]
              rw [bs_cons0 Pp]
              rw [show bs (⟨#[]⟩ : ByteArray) = [] from rfl]
              simp [rpmS, Pt, Pc]
            clear HT
            have Pp' : (0 : Int) < (P.size : Int) := by omega
            have Pz : ((P.size : Int) == 0) = false := beq_eq_false_iff_ne.2 (by omega)
            have P1 : (1 : Int) ≤ (P.size : Int) := by omega
            have PB1 : ((P[0].toNat : Int) == 126) = false := u8_ne.1 Pt
            have PB2 : ((P[0].toNat : Int) == 94) = true := u8_eq.1 Pc
            clear Pt Pc Qp
            go_wp2_with fail
            refine (HA.out _).mono ?_
            rintro e w' ⟨rfl, rfl⟩
            go_wp2_with fail
            refine (HBB.out _).mono ?_
            rintro e w' ⟨rfl, rfl⟩
            go_wp2
            go_ret
            exact ⟨rfl, HB.out⟩
        · by_cases Qp : 0 < Q.size
          · by_cases Qt : Q[0] = 126
            · obtain rfl : T = 1 := by
                rw [← HT.out]
                rw [bs_cons0 Pp, bs_cons0 Qp]
                simp [rpmS, Pt, Pc, Qt]
              clear HT
              have Pp' : (0 : Int) < (P.size : Int) := by omega
              have Pz : ((P.size : Int) == 0) = false := beq_eq_false_iff_ne.2 (by omega)
              have P1 : (1 : Int) ≤ (P.size : Int) := by omega
              have PB1 : ((P[0].toNat : Int) == 126) = false := u8_ne.1 Pt
              have PB2 : ((P[0].toNat : Int) == 94) = false := u8_ne.1 Pc
              have Qp' : (0 : Int) < (Q.size : Int) := by omega
              have Qz : ((Q.size : Int) == 0) = false := beq_eq_false_iff_ne.2 (by omega)
              have Q1 : (1 : Int) ≤ (Q.size : Int) := by omega
              have QB1 : ((Q[0].toNat : Int) == 126) = true := u8_eq.1 Qt
              clear Pt Pc Qt
              go_wp2_with fail
              refine (HA.out _).mono ?_
              rintro e w' ⟨rfl, rfl⟩
              go_wp2_with fail
              refine (HBB.out _).mono ?_
              rintro e w' ⟨rfl, rfl⟩
              go_wp2
              go_ret
              exact ⟨rfl, HB.out⟩
            · by_cases Qc : Q[0] = 94
              · obtain rfl : T = 1 := by
                  rw [← HT.out]
                  rw [bs_cons0 Pp, bs_cons0 Qp]
                  simp [rpmS, Pt, Pc, Qt, Qc]
                clear HT
                have Pp' : (0 : Int) < (P.size : Int) := by omega
                have Pz : ((P.size : Int) == 0) = false := beq_eq_false_iff_ne.2 (by omega)
                have P1 : (1 : Int) ≤ (P.size : Int) := by omega
                have PB1 : ((P[0].toNat : Int) == 126) = false := u8_ne.1 Pt
                have PB2 : ((P[0].toNat : Int) == 94) = false := u8_ne.1 Pc
                have Qp' : (0 : Int) < (Q.size : Int) := by omega
                have Qz : ((Q.size : Int) == 0) = false := beq_eq_false_iff_ne.2 (by omega)
                have Q1 : (1 : Int) ≤ (Q.size : Int) := by omega
                have QB1 : ((Q[0].toNat : Int) == 126) = false := u8_ne.1 Qt
                have QB2 : ((Q[0].toNat : Int) == 94) = true := u8_eq.1 Qc
                clear Pt Pc Qt Qc
                go_wp2_with fail
                refine (HA.out _).mono ?_
                rintro e w' ⟨rfl, rfl⟩
                go_wp2_with fail
                refine (HBB.out _).mono ?_
                rintro e w' ⟨rfl, rfl⟩
                go_wp2
                go_ret
                exact ⟨rfl, HB.out⟩
              · have h1 : hd 126 (P[0] :: (bs P).tail) = false := by rw [hd_cons]; exact decide_eq_false Pt
                have h2 : hd 126 (bs Q) = false := by rw [bs_cons0 Qp, hd_cons]; exact decide_eq_false Qt
                have h3 : hd 94 (P[0] :: (bs P).tail) = false := by rw [hd_cons]; exact decide_eq_false Pc
                have h4 : hd 94 (bs Q) = false := by rw [bs_cons0 Qp, hd_cons]; exact decide_eq_false Qc
                have h5 : bs Q ≠ [] := by rw [bs_cons0 Qp]; simp
                have HDG := Lib.hid (rdigit_c P[0])
                have hT := HT.out
                rw [bs_cons0 Pp] at hT
                have Pp' : (0 : Int) < (P.size : Int) := by omega
                have Pz : ((P.size : Int) == 0) = false := beq_eq_false_iff_ne.2 (by omega)
                have P1 : (1 : Int) ≤ (P.size : Int) := by omega
                have PB1 : ((P[0].toNat : Int) == 126) = false := u8_ne.1 Pt
                have PB2 : ((P[0].toNat : Int) == 94) = false := u8_ne.1 Pc
                have Qp' : (0 : Int) < (Q.size : Int) := by omega
                have Qz : ((Q.size : Int) == 0) = false := beq_eq_false_iff_ne.2 (by omega)
                have Q1 : (1 : Int) ≤ (Q.size : Int) := by omega
                have QB1 : ((Q[0].toNat : Int) == 126) = false := u8_ne.1 Qt
                have QB2 : ((Q[0].toNat : Int) == 94) = false := u8_ne.1 Qc
                cases hdg : dig P[0] with
                | true =>
                  rw [rpmS_dig h1 h2 h3 h4 h5 hdg, ← bs_cons0 Pp] at hT
                  have pn : 1 ≤ cnt dig (bs P) := by rw [bs_cons0 Pp]; exact cnt_pos hdg
                  rw [hdg] at HDG
                  clear h1 h2 h3 h4 h5 hdg Pt Pc Qt Qc HT
                  have HCA := Lib.hid (run_dig P (by unfold maxLen; omega))
                  have HCB := Lib.hid (run_dig Q (by unfold maxLen; omega))
                  have la := cnt_le dig (bs P)
                  have lb := cnt_le dig (bs Q)
                  rw [bs_length] at la lb
                  rw [← bs_head, ← bs_head, ← bs_drop, ← bs_drop] at hT
                  generalize cnt dig (bs P) = n at *
                  generalize cnt dig (bs Q) = m at *
                  have PRE := Lib.hid pn
                  clear pn
                  by_cases hm : m = 0
                  · subst hm
                    rw [if_pos rfl] at hT
                    obtain rfl : T = 1 := hT.symm
                    clear hT la lb
                    go_wp2_with fail
                    refine (HA.out _).mono ?_
                    rintro e w' ⟨rfl, rfl⟩
                    go_wp2_with fail
                    refine (HBB.out _).mono ?_
                    rintro e w' ⟨rfl, rfl⟩
                    go_wp2_with fail
                    refine (HDG.out _).mono ?_
                    rintro e w' ⟨rfl, rfl⟩
                    go_wp2_with fail
                    refine (HCA.out _).mono ?_
                    rintro e w' ⟨rfl, rfl⟩
                    go_wp2_with fail
                    refine (HCB.out _).mono ?_
                    rintro e w' ⟨rfl, rfl⟩
                    go_wp2
                    go_ret
                    exact ⟨rfl, HB.out⟩
                  · rw [if_neg hm] at hT
                    have hmB : ((m : Int) == 0) = false := beq_eq_false_iff_ne.2 (by omega)
                    have i1 : (0 : Int) ≤ (n : Int) := by omega
                    have i2 : (n : Int) ≤ (P.size : Int) := by omega
                    have i3 : (0 : Int) ≤ (m : Int) := by omega
                    have i4 : (m : Int) ≤ (Q.size : Int) := by omega
                    have za : (P.extract 0 n).size ≤ P.size := size_le
                    have zb : (Q.extract 0 m).size ≤ Q.size := size_le
                    have sa := size_tail P n
                    have sb := size_tail Q m
                    have HTX := Lib.hid (text_c (P.extract 0 n) (Q.extract 0 m))
                    have HN := Lib.hid (number_c (P.extract 0 n) (Q.extract 0 m) (by unfold maxLen; omega) (by unfold maxLen; omega))
                    generalize cmpN (bs (P.extract 0 n)) (bs (Q.extract 0 m)) = c at hT HN
                    generalize cmpB (bs (P.extract 0 n)) (bs (Q.extract 0 m)) = c0 at HTX
                    obtain ⟨P2, e1⟩ : ∃ P2, P.extract n P.size = P2 := ⟨_, rfl⟩
                    obtain ⟨Q2, e2⟩ : ∃ Q2, Q.extract m Q.size = Q2 := ⟨_, rfl⟩
                    rw [e1, e2] at hT
                    rw [e1] at sa
                    rw [e2] at sb
                    have SA := Lib.hid sa
                    have SB := Lib.hid sb
                    by_cases hc : c = 0
                    · subst hc
                      rw [if_neg (by simp)] at hT
                      have HT2 := Lib.hid hT
                      clear hT sa sb za zb hm la lb
                      go_wp2_with fail
                      refine (HA.out _).mono ?_
                      rintro e w' ⟨rfl, rfl⟩
                      go_wp2_with fail
                      refine (HBB.out _).mono ?_
                      rintro e w' ⟨rfl, rfl⟩
                      go_wp2_with fail
                      refine (HDG.out _).mono ?_
                      rintro e w' ⟨rfl, rfl⟩
                      go_wp2_with fail
                      refine (HCA.out _).mono ?_
                      rintro e w' ⟨rfl, rfl⟩
                      go_wp2_with fail
                      refine (HCB.out _).mono ?_
                      rintro e w' ⟨rfl, rfl⟩
                      go_wp2
                      go_quiet ((go_at_call 63; exact Calls.quiet_of_same ((HTX.out _).mono fun _ _ h => ⟨h.1, h.2.symm⟩)))
                      obtain ⟨wq, ewq⟩ : ∃ wq, wr.drewN nq = wq := ⟨_, rfl⟩
                      have HBq : Hid (Below w.heap.size w (wr.drewN nq)) := below_drw HB.out _
                      rw [ewq] at HBq ⊢
                      clear ewq HB
                      go_wp2
                      go_quiet ((go_at_call 48; exact Calls.quiet_of_same ((HN.out _).mono fun _ _ h => ⟨h.1, h.2.symm⟩)))
                      go_wp2
                      go_roundw
                      case rel => exact ⟨P2, Q2, rfl, rfl, by have := SA.out; omega, by have := SB.out; omega, below_drw HBq.out _, HT2⟩
                      case measure => have := SA.out; have := SB.out; have := PRE.out; simp only [strLen]; omega
                    · rw [if_pos hc] at hT
                      subst hT
                      have hB : (c != 0) = true := by simpa using hc
                      clear hc sa sb za zb hm la lb
                      go_wp2_with fail
                      refine (HA.out _).mono ?_
                      rintro e w' ⟨rfl, rfl⟩
                      go_wp2_with fail
                      refine (HBB.out _).mono ?_
                      rintro e w' ⟨rfl, rfl⟩
                      go_wp2_with fail
                      refine (HDG.out _).mono ?_
                      rintro e w' ⟨rfl, rfl⟩
                      go_wp2_with fail
                      refine (HCA.out _).mono ?_
                      rintro e w' ⟨rfl, rfl⟩
                      go_wp2_with fail
                      refine (HCB.out _).mono ?_
                      rintro e w' ⟨rfl, rfl⟩
                      go_wp2
                      go_quiet ((go_at_call 63; exact Calls.quiet_of_same ((HTX.out _).mono fun _ _ h => ⟨h.1, h.2.symm⟩)))
                      obtain ⟨wq, ewq⟩ : ∃ wq, wr.drewN nq = wq := ⟨_, rfl⟩
                      have HBq : Hid (Below w.heap.size w (wr.drewN nq)) := below_drw HB.out _
                      rw [ewq] at HBq ⊢
                      clear ewq HB
                      go_wp2
                      go_quiet ((go_at_call 48; exact Calls.quiet_of_same ((HN.out _).mono fun _ _ h => ⟨h.1, h.2.symm⟩)))
                      go_wp2
                      go_ret
                      exact ⟨rfl, below_drw HBq.out _⟩
                | false =>
                  have hlt := odd_lett (skip_first HP.out Pp) Pt Pc (by rw [hdg]; simp)
                  rw [rpmS_let h1 h2 h3 h4 h5 hdg, ← bs_cons0 Pp] at hT
                  have pn : 1 ≤ cnt lett (bs P) := by rw [bs_cons0 Pp]; exact cnt_pos hlt
                  rw [hdg] at HDG
                  clear h1 h2 h3 h4 h5 hdg Pt Pc Qt Qc HT hlt
                  have HCA := Lib.hid (run_lett P (by unfold maxLen; omega))
                  have HCB := Lib.hid (run_lett Q (by unfold maxLen; omega))
                  have la := cnt_le lett (bs P)
                  have lb := cnt_le lett (bs Q)
                  rw [bs_length] at la lb
                  rw [← bs_head, ← bs_head, ← bs_drop, ← bs_drop] at hT
                  generalize cnt lett (bs P) = n at *
                  generalize cnt lett (bs Q) = m at *
                  have PRE := Lib.hid pn
                  clear pn
                  by_cases hm : m = 0
                  · subst hm
                    rw [if_pos rfl] at hT
                    obtain rfl : T = -1 := hT.symm
                    clear hT la lb
                    go_wp2_with fail
                    refine (HA.out _).mono ?_
                    rintro e w' ⟨rfl, rfl⟩
                    go_wp2_with fail
                    refine (HBB.out _).mono ?_
                    rintro e w' ⟨rfl, rfl⟩
                    go_wp2_with fail
                    refine (HDG.out _).mono ?_
                    rintro e w' ⟨rfl, rfl⟩
                    go_wp2_with fail
                    refine (HCA.out _).mono ?_
                    rintro e w' ⟨rfl, rfl⟩
                    go_wp2_with fail
                    refine (HCB.out _).mono ?_
                    rintro e w' ⟨rfl, rfl⟩
                    go_wp2
                    go_ret
                    exact ⟨rfl, HB.out⟩
                  · rw [if_neg hm] at hT
                    have hmB : ((m : Int) == 0) = false := beq_eq_false_iff_ne.2 (by omega)
                    have i1 : (0 : Int) ≤ (n : Int) := by omega
                    have i2 : (n : Int) ≤ (P.size : Int) := by omega
                    have i3 : (0 : Int) ≤ (m : Int) := by omega
                    have i4 : (m : Int) ≤ (Q.size : Int) := by omega
                    have za : (P.extract 0 n).size ≤ P.size := size_le
                    have zb : (Q.extract 0 m).size ≤ Q.size := size_le
                    have sa := size_tail P n
                    have sb := size_tail Q m
                    have HTX := Lib.hid (text_c (P.extract 0 n) (Q.extract 0 m))
                    generalize cmpB (bs (P.extract 0 n)) (bs (Q.extract 0 m)) = c at hT HTX
                    obtain ⟨P2, e1⟩ : ∃ P2, P.extract n P.size = P2 := ⟨_, rfl⟩
                    obtain ⟨Q2, e2⟩ : ∃ Q2, Q.extract m Q.size = Q2 := ⟨_, rfl⟩
                    rw [e1, e2] at hT
                    rw [e1] at sa
                    rw [e2] at sb
                    have SA := Lib.hid sa
                    have SB := Lib.hid sb
                    by_cases hc : c = 0
                    · subst hc
                      rw [if_neg (by simp)] at hT
                      have HT2 := Lib.hid hT
                      clear hT sa sb za zb hm la lb
                      go_wp2_with fail
                      refine (HA.out _).mono ?_
                      rintro e w' ⟨rfl, rfl⟩
                      go_wp2_with fail
                      refine (HBB.out _).mono ?_
                      rintro e w' ⟨rfl, rfl⟩
                      go_wp2_with fail
                      refine (HDG.out _).mono ?_
                      rintro e w' ⟨rfl, rfl⟩
                      go_wp2_with fail
                      refine (HCA.out _).mono ?_
                      rintro e w' ⟨rfl, rfl⟩
                      go_wp2_with fail
                      refine (HCB.out _).mono ?_
                      rintro e w' ⟨rfl, rfl⟩
                      go_wp2
                      go_quiet ((go_at_call 63; exact Calls.quiet_of_same ((HTX.out _).mono fun _ _ h => ⟨h.1, h.2.symm⟩)))
                      go_wp2
                      go_roundw
                      case rel => exact ⟨P2, Q2, rfl, rfl, by have := SA.out; omega, by have := SB.out; omega, below_drw HB.out _, HT2⟩
                      case measure => have := SA.out; have := SB.out; have := PRE.out; simp only [strLen]; omega
                    · rw [if_pos hc] at hT
                      subst hT
                      have hB : (c != 0) = true := by simpa using hc
                      clear hc sa sb za zb hm la lb
                      go_wp2_with fail
                      refine (HA.out _).mono ?_
                      rintro e w' ⟨rfl, rfl⟩
                      go_wp2_with fail
                      refine (HBB.out _).mono ?_
                      rintro e w' ⟨rfl, rfl⟩
                      go_wp2_with fail
                      refine (HDG.out _).mono ?_
                      rintro e w' ⟨rfl, rfl⟩
                      go_wp2_with fail
                      refine (HCA.out _).mono ?_
                      rintro e w' ⟨rfl, rfl⟩
                      go_wp2_with fail
                      refine (HCB.out _).mono ?_
                      rintro e w' ⟨rfl, rfl⟩
                      go_wp2
                      go_quiet ((go_at_call 63; exact Calls.quiet_of_same ((HTX.out _).mono fun _ _ h => ⟨h.1, h.2.symm⟩)))
                      go_wp2
                      go_ret
                      exact ⟨rfl, below_drw HB.out _⟩
          · obtain rfl := bs_zero (show Q.size = 0 by omega)
            obtain rfl : T = 1 := by
              rw [← HT.out]
              rw [bs_cons0 Pp]
              rw [show bs (⟨#[]⟩ : ByteArray) = [] from rfl]
              simp [rpmS, Pt, Pc]
            clear HT
            have Pp' : (0 : Int) < (P.size : Int) := by omega
            have Pz : ((P.size : Int) == 0) = false := beq_eq_false_iff_ne.2 (by omega)
            have P1 : (1 : Int) ≤ (P.size : Int) := by omega
            have PB1 : ((P[0].toNat : Int) == 126) = false := u8_ne.1 Pt
            have PB2 : ((P[0].toNat : Int) == 94) = false := u8_ne.1 Pc
            have HS := Lib.hid (sign_c (P.size : Int))
            rw [show sgn (P.size : Int) = 1 from (if_neg (by omega)).trans (if_pos (by omega))] at HS
            clear Qp Pt Pc
            go_wp2_with fail
            refine (HA.out _).mono ?_
            rintro e w' ⟨rfl, rfl⟩
            go_wp2_with fail
            refine (HBB.out _).mono ?_
            rintro e w' ⟨rfl, rfl⟩
            go_wp2_with fail
            refine (HS.out _).mono ?_
            rintro e w' ⟨rfl, rfl⟩
            go_wp2
            go_ret
            exact ⟨rfl, HB.out⟩
    · by_cases Qp : 0 < Q.size
      · by_cases Qt : Q[0] = 126
        · obtain rfl := bs_zero (show P.size = 0 by omega)
          obtain rfl : T = 1 := by
            rw [← HT.out]
            rw [bs_cons0 Qp]
            rw [show bs (⟨#[]⟩ : ByteArray) = [] from rfl]
            simp [rpmS, Qt]
          clear HT
          have Qp' : (0 : Int) < (Q.size : Int) := by omega
          have Qz : ((Q.size : Int) == 0) = false := beq_eq_false_iff_ne.2 (by omega)
          have Q1 : (1 : Int) ≤ (Q.size : Int) := by omega
          have QB1 : ((Q[0].toNat : Int) == 126) = true := u8_eq.1 Qt
          clear Pp Qt
          go_wp2_with fail
          refine (HA.out _).mono ?_
          rintro e w' ⟨rfl, rfl⟩
          go_wp2_with fail
          refine (HBB.out _).mono ?_
          rintro e w' ⟨rfl, rfl⟩
          go_wp2
          go_ret
          exact ⟨rfl, HB.out⟩
        · by_cases Qc : Q[0] = 94
          · obtain rfl := bs_zero (show P.size = 0 by omega)
            obtain rfl : T = -1 := by
              rw [← HT.out]
              rw [bs_cons0 Qp]
              rw [show bs (⟨#[]⟩ : ByteArray) = [] from rfl]
              simp [rpmS, Qt, Qc]
            clear HT
            have Qp' : (0 : Int) < (Q.size : Int) := by omega
            have Qz : ((Q.size : Int) == 0) = false := beq_eq_false_iff_ne.2 (by omega)
            have Q1 : (1 : Int) ≤ (Q.size : Int) := by omega
            have QB1 : ((Q[0].toNat : Int) == 126) = false := u8_ne.1 Qt
            have QB2 : ((Q[0].toNat : Int) == 94) = true := u8_eq.1 Qc
            clear Pp Qt Qc
            go_wp2_with fail
            refine (HA.out _).mono ?_
            rintro e w' ⟨rfl, rfl⟩
            go_wp2_with fail
            refine (HBB.out _).mono ?_
            rintro e w' ⟨rfl, rfl⟩
            go_wp2
            go_ret
            exact ⟨rfl, HB.out⟩
          · obtain rfl := bs_zero (show P.size = 0 by omega)
            obtain rfl : T = -1 := by
              rw [← HT.out]
              rw [bs_cons0 Qp]
              rw [show bs (⟨#[]⟩ : ByteArray) = [] from rfl]
              simp [rpmS, Qt, Qc]
            clear HT
            have Qp' : (0 : Int) < (Q.size : Int) := by omega
            have Qz : ((Q.size : Int) == 0) = false := beq_eq_false_iff_ne.2 (by omega)
            have Q1 : (1 : Int) ≤ (Q.size : Int) := by omega
            have QB1 : ((Q[0].toNat : Int) == 126) = false := u8_ne.1 Qt
            have QB2 : ((Q[0].toNat : Int) == 94) = false := u8_ne.1 Qc
            have HS := Lib.hid (sign_c (0 - (Q.size : Int)))
            rw [show sgn (0 - (Q.size : Int)) = -1 from if_pos (by omega)] at HS
            rw [Int.zero_sub] at HS
            clear Pp Qt Qc
            go_wp2_with fail
            refine (HA.out _).mono ?_
            rintro e w' ⟨rfl, rfl⟩
            go_wp2_with fail
            refine (HBB.out _).mono ?_
            rintro e w' ⟨rfl, rfl⟩
            go_wp2_with fail
            refine (HS.out _).mono ?_
            rintro e w' ⟨rfl, rfl⟩
            go_wp2
            go_ret
            exact ⟨rfl, HB.out⟩
      · obtain rfl := bs_zero (show P.size = 0 by omega)
        obtain rfl := bs_zero (show Q.size = 0 by omega)
        obtain rfl : T = 0 := by
          rw [← HT.out]
          rw [show bs (⟨#[]⟩ : ByteArray) = [] from rfl]
          rfl
        clear HT
        have HS := Lib.hid (sign_c 0)
        rw [show sgn 0 = 0 from rfl] at HS
        clear Pp Qp
        go_wp2_with fail
        refine (HA.out _).mono ?_
        rintro e w' ⟨rfl, rfl⟩
        go_wp2_with fail
        refine (HBB.out _).mono ?_
        rintro e w' ⟨rfl, rfl⟩
        go_wp2_with fail
        refine (HS.out _).mono ?_
        rintro e w' ⟨rfl, rfl⟩
        go_wp2
        go_ret
        exact ⟨rfl, HB.out⟩
end Go.Proofs.YtgggbjkgpjcklaaDoor
