/-
  The walks of IdsLists and IdsParts. Helper text (printed by gen_lists.py); the conditions are those typed.
-/
import Derived.Test.YtieahneoofdneaaWalkI
namespace Go.Proofs.Ytieahneoofdneaa
set_option linter.unusedVariables false
set_option linter.unusedSimpArgs false
open Go.RowKit Go.Maps Go.Shelf Go.Sort

/-- Same, of two lists that are alike. -/
theorem same_eq {w : World} {A B : Option Addr} {na ca nb cb : Nat} {xs ys : List Int} (ha : CutI w A na ca xs) (hb : CutI w B nb cb ys) (h : xs = ys) :
    Calls Try.prog 14 #[.slice A na ca, .slice B nb cb] w fun e w' => e = .returned (.bool true) ∧ Below w.heap.size w w' := by
  obtain ⟨rfl, ia, ha1, ha2⟩ := ha
  obtain ⟨rfl, ib, hb1, hb2⟩ := hb
  exact (same_in ia ib ca cb (by unfold maxLen at *; omega) (by unfold maxLen at *; omega)).mono fun e w' ⟨he, n, hw⟩ => ⟨by rw [he, decide_eq_true h], by rw [hw]; exact Below.dr (Below.refl _ _) n⟩

theorem CutI.len {w : World} {A : Option Addr} {n c : Nat} {l : List Int} (h : CutI w A n c l) {k : Nat} (hk : l.length ≤ k) : n ≤ k := by rw [h.1]; exact hk
theorem sortC {w : World} {A : Option Addr} {n c : Nat} {xs : List Int} (h : CutI w A n c xs) (hl : n * 8 ≤ 140737488355328) :
    Calls Try.prog 15 #[.slice A n c] w fun e w' => ∃ v, e = .returned v ∧ OwnI w v (srtd xs) w' := by
  obtain ⟨rfl, ia, ha1, ha2⟩ := h
  exact sort_in ia c hl

set_option maxHeartbeats 4000000 in
set_option maxRecDepth 100000 in
theorem idsLists_walk (w : World) (A B : Option Addr) (na ca nb cb : Nat) (xs ys : List Int) (ha : CutI w A na ca xs) (hb : CutI w B nb cb ys) (hl1 : na ≤ 1048576) (hl2 : nb ≤ 1048576) :
    Calls Try.prog 7 #[.slice A na ca, .slice B nb cb] w fun e w' => e = .returned (.bool true) ∧ Below w.heap.size w w' := by
  have lx := Lib.hid ha.1
  have ly := Lib.hid hb.1
  have ha0 := Lib.hid ha
  have hb0 := Lib.hid hb
  clear ha hb
  go_enter Try.func7, Try.ntmps7
  go_wp2_with fail
  refine (awake_any w).mono ?_
  rintro e w1 ⟨rfl, hb⟩
  have hb1 := hb
  have ha0_1 := Lib.hid (ha0.out.below hb1)
  clear ha0
  have hb0_1 := Lib.hid (hb0.out.below hb1)
  clear hb0
  have B1 := Lib.hid hb1
  clear hb1
  clear hb
  go_wp2_with (at_builtin; first
    | (refine wpList_appI (w0 := w1) rfl (.tmp 15) (.tmp 16) rfl _ A na ca [] xs rfl rfl (OwnI.made w1) lx.out (((ha0_1.out).2.1).below (below_alloc w1 _)) (by have := lx.out; simp; omega) ?_; intro v2 w2 h2 hg2
       obtain ⟨A2, n2, c2, hv2, hs2⟩ := h2.sliceI
       rw [hv2]
       have M2 := Lib.hid h2.2
       have S2 := Lib.hid hs2
       clear h2 hg2 hv2 hs2)
    | (refine wpList_appI (w0 := w2) rfl (.tmp 18) (.tmp 19) rfl _ B nb cb [] ys rfl rfl (OwnI.made w2) ly.out (((hb0_1.out).below M2.out).2.1.below (below_alloc w2 _)) (by have := ly.out; simp; omega) ?_; intro v3 w3 h3 hg3
       obtain ⟨A3, n3, c3, hv3, hs3⟩ := h3.sliceI
       rw [hv3]
       have M3 := Lib.hid h3.2
       have S3 := Lib.hid hs3
       clear h3 hg3 hv3 hs3))
  rw [List.nil_append] at S2 S3
  have hb2 := M2.out
  have ha0_2 := Lib.hid (ha0_1.out.below hb2)
  clear ha0_1
  have hb0_2 := Lib.hid (hb0_1.out.below hb2)
  clear hb0_1
  have B2 := Lib.hid (B1.out.trans (Below.to hb2 B1.out.size))
  clear B1
  clear hb2
  have x := S2
  have hb3 := M3.out
  have ha0_3 := Lib.hid (ha0_2.out.below hb3)
  clear ha0_2
  have hb0_3 := Lib.hid (hb0_2.out.below hb3)
  clear hb0_2
  have x_3 := Lib.hid (S2.out.below hb3)
  clear S2
  have B3 := Lib.hid (B2.out.trans (Below.to hb3 B2.out.size))
  clear B2
  clear hb3
  clear M2 M3 x
  have q2 := x_3.out.len (k := 1048576) (by have := lx.out; omega)
  have q3 := S3.out.len (k := 1048576) (by have := ly.out; omega)
  refine (sortC x_3.out (by omega)).mono ?_
  rintro e w4 ⟨v, rfl, h⟩
  obtain ⟨A4, n4, c4, rfl, hs⟩ := h.sliceI
  have hb4 := h.2
  have ha0_4 := Lib.hid (ha0_3.out.below hb4)
  clear ha0_3
  have hb0_4 := Lib.hid (hb0_3.out.below hb4)
  clear hb0_3
  have x_4 := Lib.hid (x_3.out.below hb4)
  clear x_3
  have y_4 := Lib.hid (S3.out.below hb4)
  clear S3
  have B4 := Lib.hid (B3.out.trans (Below.to hb4 B3.out.size))
  clear B3
  clear hb4
  have s1 := Lib.hid hs
  clear hs h
  go_wp2_with fail
  refine (refSort_in ha0_4.out (by omega)).mono ?_
  rintro e w5 ⟨v, rfl, hs, hb⟩
  obtain ⟨A5, n5, c5, rfl, hs⟩ := hs
  have hb5 := hb
  have ha0_5 := Lib.hid (ha0_4.out.below hb5)
  clear ha0_4
  have hb0_5 := Lib.hid (hb0_4.out.below hb5)
  clear hb0_4
  have x_5 := Lib.hid (x_4.out.below hb5)
  clear x_4
  have y_5 := Lib.hid (y_4.out.below hb5)
  clear y_4
  have s1_5 := Lib.hid (s1.out.below hb5)
  clear s1
  have B5 := Lib.hid (B4.out.trans (Below.to hb5 B4.out.size))
  clear B4
  clear hb5
  have s2 := Lib.hid hs
  clear hs hb
  go_wp2_with fail
  refine (same_eq s1_5.out s2.out (srtd_ref xs)).mono ?_
  rintro e w6 ⟨rfl, hb⟩
  clear s1_5
  clear s2
  have hb6 := hb
  have ha0_6 := Lib.hid (ha0_5.out.below hb6)
  clear ha0_5
  have hb0_6 := Lib.hid (hb0_5.out.below hb6)
  clear hb0_5
  have x_6 := Lib.hid (x_5.out.below hb6)
  clear x_5
  have y_6 := Lib.hid (y_5.out.below hb6)
  clear y_5
  have B6 := Lib.hid (B5.out.trans (Below.to hb6 B5.out.size))
  clear B5
  clear hb6
  clear hb
  go_wp2_with fail
  refine (union_in x_6.out y_6.out (by omega)).mono ?_
  rintro e w7 ⟨v, rfl, h⟩
  obtain ⟨A7, n7, c7, rfl, hs⟩ := h.sliceI
  have hb7 := h.2
  have ha0_7 := Lib.hid (ha0_6.out.below hb7)
  clear ha0_6
  have hb0_7 := Lib.hid (hb0_6.out.below hb7)
  clear hb0_6
  have x_7 := Lib.hid (x_6.out.below hb7)
  clear x_6
  have y_7 := Lib.hid (y_6.out.below hb7)
  clear y_6
  have B7 := Lib.hid (B6.out.trans (Below.to hb7 B6.out.size))
  clear B6
  clear hb7
  have u1 := Lib.hid hs
  clear hs h
  go_wp2_with fail
  refine (refUnion_in ha0_7.out hb0_7.out (by omega)).mono ?_
  rintro e w8 ⟨v, rfl, hs, hb⟩
  obtain ⟨A8, n8, c8, rfl, hs⟩ := hs
  have hb8 := hb
  have ha0_8 := Lib.hid (ha0_7.out.below hb8)
  clear ha0_7
  have hb0_8 := Lib.hid (hb0_7.out.below hb8)
  clear hb0_7
  have x_8 := Lib.hid (x_7.out.below hb8)
  clear x_7
  have y_8 := Lib.hid (y_7.out.below hb8)
  clear y_7
  have u1_8 := Lib.hid (u1.out.below hb8)
  clear u1
  have B8 := Lib.hid (B7.out.trans (Below.to hb8 B7.out.size))
  clear B7
  clear hb8
  have u2 := Lib.hid hs
  clear hs hb
  go_wp2_with fail
  refine (same_eq u1_8.out u2.out (rfl)).mono ?_
  rintro e w9 ⟨rfl, hb⟩
  clear u1_8
  clear u2
  have hb9 := hb
  have ha0_9 := Lib.hid (ha0_8.out.below hb9)
  clear ha0_8
  have hb0_9 := Lib.hid (hb0_8.out.below hb9)
  clear hb0_8
  have x_9 := Lib.hid (x_8.out.below hb9)
  clear x_8
  have y_9 := Lib.hid (y_8.out.below hb9)
  clear y_8
  have B9 := Lib.hid (B8.out.trans (Below.to hb9 B8.out.size))
  clear B8
  clear hb9
  clear hb
  go_wp2_with fail
  refine (meet_in x_9.out y_9.out (by omega)).mono ?_
  rintro e w10 ⟨v, rfl, h⟩
  obtain ⟨A10, n10, c10, rfl, hs⟩ := h.sliceI
  have hb10 := h.2
  have ha0_10 := Lib.hid (ha0_9.out.below hb10)
  clear ha0_9
  have hb0_10 := Lib.hid (hb0_9.out.below hb10)
  clear hb0_9
  have x_10 := Lib.hid (x_9.out.below hb10)
  clear x_9
  have y_10 := Lib.hid (y_9.out.below hb10)
  clear y_9
  have B10 := Lib.hid (B9.out.trans (Below.to hb10 B9.out.size))
  clear B9
  clear hb10
  have m1 := Lib.hid hs
  clear hs h
  go_wp2_with fail
  refine (refMeet_in ha0_10.out hb0_10.out (by omega)).mono ?_
  rintro e w11 ⟨v, rfl, hs, hb⟩
  obtain ⟨A11, n11, c11, rfl, hs⟩ := hs
  have hb11 := hb
  have ha0_11 := Lib.hid (ha0_10.out.below hb11)
  clear ha0_10
  have hb0_11 := Lib.hid (hb0_10.out.below hb11)
  clear hb0_10
  have x_11 := Lib.hid (x_10.out.below hb11)
  clear x_10
  have y_11 := Lib.hid (y_10.out.below hb11)
  clear y_10
  have m1_11 := Lib.hid (m1.out.below hb11)
  clear m1
  have B11 := Lib.hid (B10.out.trans (Below.to hb11 B10.out.size))
  clear B10
  clear hb11
  have m2 := Lib.hid hs
  clear hs hb
  go_wp2_with fail
  refine (same_eq m1_11.out m2.out (rfl)).mono ?_
  rintro e w12 ⟨rfl, hb⟩
  clear m1_11
  clear m2
  have hb12 := hb
  have ha0_12 := Lib.hid (ha0_11.out.below hb12)
  clear ha0_11
  have hb0_12 := Lib.hid (hb0_11.out.below hb12)
  clear hb0_11
  have x_12 := Lib.hid (x_11.out.below hb12)
  clear x_11
  have y_12 := Lib.hid (y_11.out.below hb12)
  clear y_11
  have B12 := Lib.hid (B11.out.trans (Below.to hb12 B11.out.size))
  clear B11
  clear hb12
  clear hb
  go_wp2_with fail
  refine (minus_in x_12.out y_12.out (by omega)).mono ?_
  rintro e w13 ⟨v, rfl, h⟩
  obtain ⟨A13, n13, c13, rfl, hs⟩ := h.sliceI
  have hb13 := h.2
  have ha0_13 := Lib.hid (ha0_12.out.below hb13)
  clear ha0_12
  have hb0_13 := Lib.hid (hb0_12.out.below hb13)
  clear hb0_12
  have x_13 := Lib.hid (x_12.out.below hb13)
  clear x_12
  have y_13 := Lib.hid (y_12.out.below hb13)
  clear y_12
  have B13 := Lib.hid (B12.out.trans (Below.to hb13 B12.out.size))
  clear B12
  clear hb13
  have d1 := Lib.hid hs
  clear hs h
  go_wp2_with fail
  refine (refMinus_in ha0_13.out hb0_13.out (by omega)).mono ?_
  rintro e w14 ⟨v, rfl, hs, hb⟩
  obtain ⟨A14, n14, c14, rfl, hs⟩ := hs
  have hb14 := hb
  have ha0_14 := Lib.hid (ha0_13.out.below hb14)
  clear ha0_13
  have hb0_14 := Lib.hid (hb0_13.out.below hb14)
  clear hb0_13
  have x_14 := Lib.hid (x_13.out.below hb14)
  clear x_13
  have y_14 := Lib.hid (y_13.out.below hb14)
  clear y_13
  have d1_14 := Lib.hid (d1.out.below hb14)
  clear d1
  have B14 := Lib.hid (B13.out.trans (Below.to hb14 B13.out.size))
  clear B13
  clear hb14
  have d2 := Lib.hid hs
  clear hs hb
  go_wp2_with fail
  refine (same_eq d1_14.out d2.out (rfl)).mono ?_
  rintro e w15 ⟨rfl, hb⟩
  clear d1_14
  clear d2
  have hb15 := hb
  have ha0_15 := Lib.hid (ha0_14.out.below hb15)
  clear ha0_14
  have hb0_15 := Lib.hid (hb0_14.out.below hb15)
  clear hb0_14
  have x_15 := Lib.hid (x_14.out.below hb15)
  clear x_14
  have y_15 := Lib.hid (y_14.out.below hb15)
  clear y_14
  have B15 := Lib.hid (B14.out.trans (Below.to hb15 B14.out.size))
  clear B14
  clear hb15
  clear hb
  go_wp2_with fail
  refine (same_eq x_15.out ha0_15.out (rfl)).mono ?_
  rintro e w16 ⟨rfl, hb⟩
  have hb16 := hb
  have ha0_16 := Lib.hid (ha0_15.out.below hb16)
  clear ha0_15
  have hb0_16 := Lib.hid (hb0_15.out.below hb16)
  clear hb0_15
  have x_16 := Lib.hid (x_15.out.below hb16)
  clear x_15
  have y_16 := Lib.hid (y_15.out.below hb16)
  clear y_15
  have B16 := Lib.hid (B15.out.trans (Below.to hb16 B15.out.size))
  clear B15
  clear hb16
  clear hb
  go_wp2_with fail
  refine (same_eq y_16.out hb0_16.out (rfl)).mono ?_
  rintro e w17 ⟨rfl, hb⟩
  have hb17 := hb
  have ha0_17 := Lib.hid (ha0_16.out.below hb17)
  clear ha0_16
  have hb0_17 := Lib.hid (hb0_16.out.below hb17)
  clear hb0_16
  have x_17 := Lib.hid (x_16.out.below hb17)
  clear x_16
  have y_17 := Lib.hid (y_16.out.below hb17)
  clear y_16
  have B17 := Lib.hid (B16.out.trans (Below.to hb17 B16.out.size))
  clear B16
  clear hb17
  clear hb
  go_wp2
  go_ret
  exact ⟨rfl, B17.out⟩

set_option maxHeartbeats 4000000 in
set_option maxRecDepth 100000 in
theorem idsParts_walk (w : World) (A B : Option Addr) (na ca nb cb : Nat) (xs ys : List Int) (ha : CutI w A na ca xs) (hb : CutI w B nb cb ys) (hl1 : na ≤ 1048576) (hl2 : nb ≤ 1048576) :
    Calls Try.prog 8 #[.slice A na ca, .slice B nb cb] w fun e w' => e = .returned (.bool true) ∧ Below w.heap.size w w' := by
  have lx := Lib.hid ha.1
  have ly := Lib.hid hb.1
  have ha0 := Lib.hid ha
  have hb0 := Lib.hid hb
  clear ha hb
  go_enter Try.func8, Try.ntmps8
  go_wp2_with fail
  refine (awake_any w).mono ?_
  rintro e w1 ⟨rfl, hb⟩
  have hb1 := hb
  have ha0_1 := Lib.hid (ha0.out.below hb1)
  clear ha0
  have hb0_1 := Lib.hid (hb0.out.below hb1)
  clear hb0
  have B1 := Lib.hid hb1
  clear hb1
  clear hb
  go_wp2_with fail
  refine (union_in ha0_1.out hb0_1.out (by omega)).mono ?_
  rintro e w2 ⟨v, rfl, h⟩
  obtain ⟨A2, n2, c2, rfl, hs⟩ := h.sliceI
  have hb2 := h.2
  have ha0_2 := Lib.hid (ha0_1.out.below hb2)
  clear ha0_1
  have hb0_2 := Lib.hid (hb0_1.out.below hb2)
  clear hb0_1
  have B2 := Lib.hid (B1.out.trans (Below.to hb2 B1.out.size))
  clear B1
  clear hb2
  have u := Lib.hid hs
  clear hs h
  go_wp2_with fail
  refine (meet_in ha0_2.out hb0_2.out (by omega)).mono ?_
  rintro e w3 ⟨v, rfl, h⟩
  obtain ⟨A3, n3, c3, rfl, hs⟩ := h.sliceI
  have hb3 := h.2
  have ha0_3 := Lib.hid (ha0_2.out.below hb3)
  clear ha0_2
  have hb0_3 := Lib.hid (hb0_2.out.below hb3)
  clear hb0_2
  have u_3 := Lib.hid (u.out.below hb3)
  clear u
  have B3 := Lib.hid (B2.out.trans (Below.to hb3 B2.out.size))
  clear B2
  clear hb3
  have m := Lib.hid hs
  clear hs h
  go_wp2_with fail
  refine (minus_in ha0_3.out hb0_3.out (by omega)).mono ?_
  rintro e w4 ⟨v, rfl, h⟩
  obtain ⟨A4, n4, c4, rfl, hs⟩ := h.sliceI
  have hb4 := h.2
  have ha0_4 := Lib.hid (ha0_3.out.below hb4)
  clear ha0_3
  have hb0_4 := Lib.hid (hb0_3.out.below hb4)
  clear hb0_3
  have u_4 := Lib.hid (u_3.out.below hb4)
  clear u_3
  have m_4 := Lib.hid (m.out.below hb4)
  clear m
  have B4 := Lib.hid (B3.out.trans (Below.to hb4 B3.out.size))
  clear B3
  clear hb4
  have l := Lib.hid hs
  clear hs h
  go_wp2_with fail
  refine (minus_in hb0_4.out ha0_4.out (by omega)).mono ?_
  rintro e w5 ⟨v, rfl, h⟩
  obtain ⟨A5, n5, c5, rfl, hs⟩ := h.sliceI
  have hb5 := h.2
  have ha0_5 := Lib.hid (ha0_4.out.below hb5)
  clear ha0_4
  have hb0_5 := Lib.hid (hb0_4.out.below hb5)
  clear hb0_4
  have u_5 := Lib.hid (u_4.out.below hb5)
  clear u_4
  have m_5 := Lib.hid (m_4.out.below hb5)
  clear m_4
  have l_5 := Lib.hid (l.out.below hb5)
  clear l
  have B5 := Lib.hid (B4.out.trans (Below.to hb5 B4.out.size))
  clear B4
  clear hb5
  have r := Lib.hid hs
  clear hs h
  have z := parts_length xs ys
  have z2 := (u_5.out).1
  have z3 := (m_5.out).1
  have z4 := (l_5.out).1
  have z5 := (r.out).1
  have zu := mergedOf_length stUnion xs ys
  have hsum : n4 + n3 + n5 = n2 := by omega
  have hn2 : n2 ≤ 2097152 := by have := lx.out; have := ly.out; omega
  have HS := Lib.hid hsum
  have b3 : n3 ≤ 2097152 := by omega
  have b4 : n4 ≤ 2097152 := by omega
  have b5 : n5 ≤ 2097152 := by omega
  clear z z2 z3 z4 z5 zu hsum
  go_wp2_with fail
  refine (union_in hb0_5.out ha0_5.out (by omega)).mono ?_
  rintro e w6 ⟨v, rfl, h⟩
  obtain ⟨A6, n6, c6, rfl, hs⟩ := h.sliceI
  have hb6 := h.2
  have ha0_6 := Lib.hid (ha0_5.out.below hb6)
  clear ha0_5
  have hb0_6 := Lib.hid (hb0_5.out.below hb6)
  clear hb0_5
  have u_6 := Lib.hid (u_5.out.below hb6)
  clear u_5
  have m_6 := Lib.hid (m_5.out.below hb6)
  clear m_5
  have l_6 := Lib.hid (l_5.out.below hb6)
  clear l_5
  have r_6 := Lib.hid (r.out.below hb6)
  clear r
  have B6 := Lib.hid (B5.out.trans (Below.to hb6 B5.out.size))
  clear B5
  clear hb6
  have u2 := Lib.hid hs
  clear hs h
  go_wp2_with fail
  refine (same_eq u_6.out u2.out (union_comm xs ys)).mono ?_
  rintro e w7 ⟨rfl, hb⟩
  clear u2
  have hb7 := hb
  have ha0_7 := Lib.hid (ha0_6.out.below hb7)
  clear ha0_6
  have hb0_7 := Lib.hid (hb0_6.out.below hb7)
  clear hb0_6
  have u_7 := Lib.hid (u_6.out.below hb7)
  clear u_6
  have m_7 := Lib.hid (m_6.out.below hb7)
  clear m_6
  have l_7 := Lib.hid (l_6.out.below hb7)
  clear l_6
  have r_7 := Lib.hid (r_6.out.below hb7)
  clear r_6
  have B7 := Lib.hid (B6.out.trans (Below.to hb7 B6.out.size))
  clear B6
  clear hb7
  clear hb
  go_wp2_with fail
  refine (meet_in hb0_7.out ha0_7.out (by omega)).mono ?_
  rintro e w8 ⟨v, rfl, h⟩
  obtain ⟨A8, n8, c8, rfl, hs⟩ := h.sliceI
  have hb8 := h.2
  have ha0_8 := Lib.hid (ha0_7.out.below hb8)
  clear ha0_7
  have hb0_8 := Lib.hid (hb0_7.out.below hb8)
  clear hb0_7
  have u_8 := Lib.hid (u_7.out.below hb8)
  clear u_7
  have m_8 := Lib.hid (m_7.out.below hb8)
  clear m_7
  have l_8 := Lib.hid (l_7.out.below hb8)
  clear l_7
  have r_8 := Lib.hid (r_7.out.below hb8)
  clear r_7
  have B8 := Lib.hid (B7.out.trans (Below.to hb8 B7.out.size))
  clear B7
  clear hb8
  have m2 := Lib.hid hs
  clear hs h
  go_wp2_with fail
  refine (same_eq m_8.out m2.out (meet_comm xs ys)).mono ?_
  rintro e w9 ⟨rfl, hb⟩
  clear m2
  have hb9 := hb
  have ha0_9 := Lib.hid (ha0_8.out.below hb9)
  clear ha0_8
  have hb0_9 := Lib.hid (hb0_8.out.below hb9)
  clear hb0_8
  have u_9 := Lib.hid (u_8.out.below hb9)
  clear u_8
  have m_9 := Lib.hid (m_8.out.below hb9)
  clear m_8
  have l_9 := Lib.hid (l_8.out.below hb9)
  clear l_8
  have r_9 := Lib.hid (r_8.out.below hb9)
  clear r_8
  have B9 := Lib.hid (B8.out.trans (Below.to hb9 B8.out.size))
  clear B8
  clear hb9
  clear hb
  go_wp2_with fail
  refine (union_in m_9.out r_9.out (by omega)).mono ?_
  rintro e w10 ⟨v, rfl, h⟩
  obtain ⟨A10, n10, c10, rfl, hs⟩ := h.sliceI
  have hb10 := h.2
  have ha0_10 := Lib.hid (ha0_9.out.below hb10)
  clear ha0_9
  have hb0_10 := Lib.hid (hb0_9.out.below hb10)
  clear hb0_9
  have u_10 := Lib.hid (u_9.out.below hb10)
  clear u_9
  have m_10 := Lib.hid (m_9.out.below hb10)
  clear m_9
  have l_10 := Lib.hid (l_9.out.below hb10)
  clear l_9
  have r_10 := Lib.hid (r_9.out.below hb10)
  clear r_9
  have B10 := Lib.hid (B9.out.trans (Below.to hb10 B9.out.size))
  clear B9
  clear hb10
  have mr := Lib.hid hs
  clear hs h
  have zz := (mr.out).1
  have zz2 := mergedOf_length stUnion (mergedOf stMeet xs ys) (mergedOf stMinus ys xs)
  have y3 := (m_10.out).1
  have y5 := (r_10.out).1
  have bmr : n10 ≤ 4194304 := by omega
  clear zz zz2 y3 y5
  go_wp2_with fail
  refine (union_in l_10.out mr.out (by omega)).mono ?_
  rintro e w11 ⟨v, rfl, h⟩
  obtain ⟨A11, n11, c11, rfl, hs⟩ := h.sliceI
  have hb11 := h.2
  have ha0_11 := Lib.hid (ha0_10.out.below hb11)
  clear ha0_10
  have hb0_11 := Lib.hid (hb0_10.out.below hb11)
  clear hb0_10
  have u_11 := Lib.hid (u_10.out.below hb11)
  clear u_10
  have m_11 := Lib.hid (m_10.out.below hb11)
  clear m_10
  have l_11 := Lib.hid (l_10.out.below hb11)
  clear l_10
  have r_11 := Lib.hid (r_10.out.below hb11)
  clear r_10
  have mr_11 := Lib.hid (mr.out.below hb11)
  clear mr
  have B11 := Lib.hid (B10.out.trans (Below.to hb11 B10.out.size))
  clear B10
  clear hb11
  have all2 := Lib.hid hs
  clear hs h
  go_wp2_with fail
  refine (same_eq all2.out u_11.out (parts_union xs ys)).mono ?_
  rintro e w12 ⟨rfl, hb⟩
  clear all2
  clear mr_11
  clear m_11
  clear r_11
  clear l_11
  clear ha0_11
  clear hb0_11
  have hb12 := hb
  have u_12 := Lib.hid (u_11.out.below hb12)
  clear u_11
  have B12 := Lib.hid (B11.out.trans (Below.to hb12 B11.out.size))
  clear B11
  clear hb12
  clear hb
  go_wp2_with fail
  have hc2 : n2 ≤ c2 := (u_12.out).2.2.1
  have hcm2 : c2 ≤ 9223372036854775807 := (u_12.out).2.2.2
  go_loopw [13] (fun vi wr => ∃ j : Nat, vi = .int .i64 ((j : Int) + 1) ∧ (j = 0 ∨ j + 1 ≤ n2) ∧ ∃ q, wr = w12.drewN q) (fun vi _ => n2 - (intOf vi).toNat)
  case atStart => exact ⟨0, by go_num, .inl rfl, 0, rfl⟩
  case round =>
    obtain ⟨j, rfl, hj, q, rfl⟩ := hrel
    have hUL := (u_12.out).1
    have HUL := Lib.hid hUL
    clear hUL
    by_cases hjl : j + 1 < n2
    · have hk1 : j < (mergedOf stUnion xs ys).length := by have := HUL.out; omega
      have hk2 : j + 1 < (mergedOf stUnion xs ys).length := by have := HUL.out; omega
      obtain ⟨b, off, rfl, hc⟩ := (u_12.out).2.1.cell hk1
      have hc2' : w12.cell? ⟨b, off + (j + 1), none⟩ = some (.int .i64 (mergedOf stUnion xs ys)[j + 1]) := by
        obtain ⟨b', off', e, h⟩ := (u_12.out).2.1.cell hk2
        cases e
        exact h
      have hr : (mergedOf stUnion xs ys)[j] < (mergedOf stUnion xs ys)[j + 1] := List.pairwise_iff_getElem.1 (mergedOf_rising stUnion xs ys) j (j + 1) hk1 hk2 (by omega)
      generalize (mergedOf stUnion xs ys)[j] = p at hc hr
      generalize (mergedOf stUnion xs ys)[j + 1] = r at hc2' hr
      have hlt : (j : Int) + 1 < (n2 : Int) := by omega
      have hd : decide (r ≤ p) = false := by simpa using hr
      have hnp : ¬ r ≤ p := by omega
      go_wp2
      go_quiet (fail)
      go_wp2
      go_roundw
      case rel => exact ⟨j + 1, by go_num, .inr (by omega), q + nq, by simp⟩
      case measure => simp [intOf]; omega
    · have hlt : ¬ (j : Int) + 1 < (n2 : Int) := by omega
      have hB : (((n4 : Int) + (n3 : Int) + (n5 : Int)) == (n2 : Int)) = true := by have := HS.out; simp; omega
      go_wp2
      go_ret
      exact ⟨by first | rfl | simp, Below.dr B12.out q⟩
end Go.Proofs.Ytieahneoofdneaa
