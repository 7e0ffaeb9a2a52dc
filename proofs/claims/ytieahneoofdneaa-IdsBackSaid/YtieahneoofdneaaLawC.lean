/-
  The walk of IdsBack. Helper text; the conditions are those typed.
-/
import Derived.Test.YtieahneoofdneaaLawB
namespace Go.Proofs.Ytieahneoofdneaa
set_option linter.unusedVariables false
set_option linter.unusedSimpArgs false
open Go.RowKit Go.Maps Go.Shelf Go.Sort

theorem arr_toList (l : List UInt8) : (⟨l.toArray⟩ : ByteArray).toList = l := by rw [ByteArray.toList_eq]

set_option maxHeartbeats 1000000 in
set_option maxRecDepth 100000 in
theorem idsBack_walk (w : World) (n m : Nat) (hn : n < 18446744073709551616) (hm : m < 18446744073709551616) (u : Value) (r : List UInt8) (hu : ReadsB w u r) (hl : r.length + 10 ≤ 140737488355328) :
    Calls Try.prog 5 #[.int .u64 n, .int .u64 m, u] w fun e w' => e = .returned (.bool true) ∧ Below w.heap.size w w' := by
  have hA := Lib.uvarint_length64 hn
  have hB := Lib.uvarint_length64 hm
  go_enter Try.func5, Try.ntmps5
  go_wp2_with fail
  refine (awake_any w).mono ?_
  rintro e w1 ⟨rfl, h1⟩
  have U1 := Lib.hid (hu.below h1)
  have B1 := Lib.hid h1
  clear h1 hu
  go_wp2_with fail
  refine (put_in (w := w1) (a := none) (l := []) (.inl rfl) 0 n hn (by simp)).mono ?_
  rintro e w2 ⟨vA, rfl, h2⟩
  rw [List.nil_append] at h2
  have U2 := Lib.hid (U1.out.below h2.2)
  have B2 := Lib.hid (B1.out.trans (Below.to h2.2 B1.out.size))
  have RA2 := Lib.hid h2.reads
  clear h2 U1 B1
  go_wp2_with fail
  refine (put_in (w := w2) (a := none) (l := []) (.inl rfl) 0 m hm (by simp)).mono ?_
  rintro e w3 ⟨vB, rfl, h3⟩
  rw [List.nil_append] at h3
  have U3 := Lib.hid (U2.out.below h3.2)
  have B3 := Lib.hid (B2.out.trans (Below.to h3.2 B2.out.size))
  have RA3 := Lib.hid (RA2.out.below h3.2)
  obtain ⟨aB, cB, rfl, hbB, hcB, hcm⟩ := h3.slice2
  have RB3 := Lib.hid hbB
  clear h3 U2 B2 RA2 hbB
  have hmade := OwnB.made w3
  have HM := Lib.hid hmade
  have UA := Lib.hid (RA3.out.below hmade.2)
  clear hmade
  go_wp2_with (at_builtin; first
    | (refine wpList_appB (w0 := w3) rfl _ _ rfl _ vA [] (Lib.uvarint n) rfl rfl HM.out UA.out (by simp; omega) ?_; intro v4 w4 h4 hg4
       have H4 := Lib.hid h4
       have UU4 := Lib.hid (U3.out.below h4.2)
       clear h4 hg4)
    | (refine wpList_appB (w0 := w3) rfl _ _ rfl _ u ([] ++ Lib.uvarint n) r rfl rfl H4.out UU4.out (by simp; omega) ?_; intro v5 w5 h5 hg5
       have H5 := Lib.hid h5
       clear h5 hg5))
  have h5 := H5.out
  rw [List.nil_append] at h5
  obtain ⟨a5, c5, rfl, hb5, hl5, hm5⟩ := h5.slice2
  have B5 := Lib.hid (B3.out.trans (Below.to h5.2 B3.out.size))
  have RA5 := Lib.hid (RA3.out.below h5.2)
  have RB5 := Lib.hid (RB3.out.below h5.2)
  have R5 := Lib.hid hb5
  clear H5 h5 H4 UU4 HM UA U3 RA3 RB3 B3 hb5
  refine (take_in R5.out c5 (by omega)).mono ?_
  rintro e w6 ⟨rfl, rfl⟩
  rw [take_back hn]
  obtain ⟨aA, cA, rfl, hbA⟩ := RA5.out.at
  have RA6 := Lib.hid hbA
  have hlen : maxLen = 9223372036854775807 := by decide
  by_cases hle : (Lib.uvarint n).length ≤ (Lib.uvarint m).length
  · have hle' : ((Lib.uvarint n).length : Int) ≤ ((Lib.uvarint m).length : Int) := by omega
    have hcc : ((Lib.uvarint n).length : Int) ≤ (cB : Int) := by omega
    have hd : decide (((Lib.uvarint n).length : Int) ≤ ((Lib.uvarint m).length : Int)) = true := by simpa using hle
    have hbT : BytesAt w5 aB ((Lib.uvarint m).take (Lib.uvarint n).length) := by
      rcases RB5.out with h | ⟨b, off, e, hc⟩
      · left; rw [h]; simp
      · refine .inr ⟨b, off, e, fun i hi => ?_⟩
        have hi' : i < (Lib.uvarint n).length := by simp at hi; omega
        rw [hc i (by omega)]
        simp [List.getD, hi']
    have k1 := fun q => convB (w := w5.drewN q) (a := aB) hbT cB
    have k2 := fun q => convB (w := w5.drewN q) (a := aA) RA6.out cA
    have hB : ((⟨((Lib.uvarint m).take (Lib.uvarint n).length).toArray⟩ : ByteArray).toList == (⟨(Lib.uvarint n).toArray⟩ : ByteArray).toList) = ((n : Int) == (m : Int)) := by
      rw [arr_toList, arr_toList, Bool.eq_iff_iff]
      simp only [beq_iff_eq]
      constructor
      · intro h
        have := uvarint_prefix hn hm h
        omega
      · intro h
        have : n = m := by omega
        subst this
        simp
    have hlt : ((Lib.uvarint m).take (Lib.uvarint n).length).length = (Lib.uvarint n).length := by simp; omega
    rw [hlt] at k1
    generalize hB2 : ((n : Int) == (m : Int)) = B at hB
    have HB2 := Lib.hid hB2
    have hBT := hB
    rw [arr_toList, arr_toList] at hBT
    have HBT := Lib.hid hBT
    clear hBT
    clear hlt hbT RB5 R5 RA5 RA6 hbA
    go_wp2
    go_quiet (fail)
    have hB3 := HB2.out
    clear k1 k2 hB
    go_wp2
    go_ret
    exact ⟨by simpa using HBT.out, Below.dr B5.out _⟩
  · have hle' : ¬ ((Lib.uvarint n).length : Int) ≤ ((Lib.uvarint m).length : Int) := by omega
    have hd : decide (((Lib.uvarint n).length : Int) ≤ ((Lib.uvarint m).length : Int)) = false := by simpa using hle
    have hB2 : ((n : Int) == (m : Int)) = false := by
      rw [beq_eq_false_iff_ne]
      intro h
      have : n = m := by omega
      subst this
      exact hle (Nat.le_refl _)
    have HB2 := Lib.hid hB2
    clear RB5 R5 RA5 RA6 hbA hB2
    go_wp2
    go_quiet (fail)
    have hB3 := HB2.out
    go_wp2
    go_ret
    exact ⟨by simp, Below.dr B5.out _⟩
end Go.Proofs.Ytieahneoofdneaa
