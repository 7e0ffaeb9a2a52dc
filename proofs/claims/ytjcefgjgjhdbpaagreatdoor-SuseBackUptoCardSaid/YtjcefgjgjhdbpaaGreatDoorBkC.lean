/-
  Packages are written, read again by both readers, or refused: the walk. Helper text; the conditions are those typed.
-/
import Derived.Test.YtjcefgjgjhdbpaaGreatDoorBkB
import Derived.Test.YtjcefgjgjhdbpaaGreatDoorRRdH
namespace Go.Proofs.YtjcefgjgjhdbpaaGreatDoor
set_option linter.unusedVariables false
set_option linter.unusedSimpArgs false
open Go.RowKit Go.Maps

set_option maxHeartbeats 8000000 in
set_option maxRecDepth 1000000 in
theorem suseBack_walk (ps : List PkgT) (a : Option Addr) (n c : Nat) (w : World) (h : PkgsV w (· < w.heap.size) ps (.slice a n c)) (hs : ∀ p ∈ ps, ∀ i, ∀ d ∈ depsL p i, nparts d ≤ 1048576) : Calls Tryz.prog 4 #[.slice a n c] w fun e w' => e = .returned (.bool true) ∧ Below w.heap.size w w' := by
  have HAW := Lib.hid (awake_c w)
  have HM : Hid (1000000000000000000 ≤ maxLen) := Lib.hid (by decide)
  have HV : Hid (∀ W, Below w.heap.size w W → PkgsV W (· < W.heap.size) ps (.slice a n c)) := Lib.hid fun W hW => h.low (fun b hb => hb) hW
  obtain ⟨E, hE⟩ : ∃ E, wrongS ps = E := ⟨_, rfl⟩
  have HWR := Lib.hid (fun W hW => wrong_c ps (.slice a n c) _ W (HV.out W hW) (fun b hb => hb))
  rw [hE] at HWR
  have HE := Lib.hid hE
  have HS := Lib.hid hs
  clear h hs hE
  go_enter Tryz.func4, Tryz.ntmps4
  go_wp2_with fail
  refine HAW.out.mono ?_
  rintro e0 w1 ⟨rfl, hb1⟩
  have HB1 := Lib.hid hb1
  clear hb1 HAW
  by_cases hE0 : E = 0
  · subst hE0
    obtain ⟨g1, g2⟩ := wrongS_ok HE.out
    have g3 := write_small HE.out HS.out
    have HW := Lib.hid (write_good ps _ _ w1 (HV.out w1 HB1.out) (fun b hb => hb) g1 g2 g3)
    have HPW := Lib.hid (fun h => parse_write g1 g2 h)
    have hsz : (mkB (writeB ps)).size = (writeB ps).length := by rw [← bs_length, bs_mkB]
    have H3 := Lib.hid (fun W => sparse_c (mkB (writeB ps)) (by rw [hsz]; have := HM.out; omega) W)
    have H4 := Lib.hid (fun W => rsparse_c (mkB (writeB ps)) (by rw [hsz]; have := HM.out; omega) W)
    have HSZ := Lib.hid hsz
    clear g1 g2 g3 hsz
    obtain ⟨T, hT⟩ : ∃ T, mkB (writeB ps) = T := ⟨_, rfl⟩
    rw [hT] at HW HPW H3 H4 HSZ
    clear hT
    go_wp2_with fail
    refine HW.out.mono ?_
    rintro e3 w2 ⟨rfl, hb2⟩
    have HB2 := Lib.hid (below_tr HB1.out hb2)
    clear hb2 HW
    go_wp2_with fail
    refine (HWR.out _ HB2.out).mono ?_
    rintro e4 w3 ⟨rfl, hb3⟩
    have HB3 := Lib.hid (below_tr HB2.out hb3)
    clear hb3 HWR
    by_cases hl : 40000 < T.size
    · have hl1 : (40000 : Int) < (T.size : Int) := by omega
      go_wp2_with fail
      go_ret
      exact ⟨rfl, HB3.out⟩
    · have hl1 : ¬ (40000 : Int) < (T.size : Int) := by omega
      have hpw := HPW.out (by have := HSZ.out; omega)
      rw [hpw] at H3 H4
      clear hpw
      go_wp2_with fail
      refine (H3.out _).mono ?_
      rintro e5 w4 ⟨va, rfl, hb4, hp4⟩
      have HB4 := Lib.hid (below_tr HB3.out hb4)
      have HP4 := Lib.hid hp4
      clear hb4 hp4 H3
      go_wp2_with fail
      refine (H4.out _).mono ?_
      rintro e6 w5 ⟨vb, rfl, hb5, hp5⟩
      have HB5 := Lib.hid (below_tr HB4.out hb5)
      have HSM := Lib.hid (sameList_c ps va (.slice a n c) _ _ w5 (HP4.out.low new_lt hb5) (HV.out w5 HB5.out))
      have HP5 := Lib.hid hp5
      clear hb5 hp5 H4
      go_wp2_with fail
      refine HSM.out.mono ?_
      rintro e7 w6 ⟨rfl, hb6⟩
      have HB6 := Lib.hid (below_tr HB5.out hb6)
      have HSN := Lib.hid (sameList_c ps vb (.slice a n c) _ _ w6 (HP5.out.low new_lt hb6) (HV.out w6 HB6.out))
      clear hb6 HSM
      go_wp2_with fail
      refine HSN.out.mono ?_
      rintro e8 w7 ⟨rfl, hb7⟩
      have HB7 := Lib.hid (below_tr HB6.out hb7)
      clear hb7 HSN
      go_wp2_with fail
      go_ret
      exact ⟨by simp, HB7.out⟩
  · have HW := Lib.hid (write_bad ps _ _ w1 (HV.out w1 HB1.out) (fun b hb => hb) E HE.out hE0)
    have q1 : (E == 0) = false := by simpa using hE0
    have q2 : (E != 0) = true := by rw [bne, q1]; rfl
    have q3 : (E == E) = true := by simp
    have q4 : (E != E) = false := by rw [bne, q3]; rfl
    go_wp2_with fail
    refine HW.out.mono ?_
    rintro e3 w2 ⟨rfl, hb2⟩
    have HB2 := Lib.hid (below_tr HB1.out hb2)
    clear hb2 HW
    go_wp2_with fail
    refine (HWR.out _ HB2.out).mono ?_
    rintro e4 w3 ⟨rfl, hb3⟩
    have HB3 := Lib.hid (below_tr HB2.out hb3)
    clear hb3 HWR
    go_wp2_with fail
    go_ret
    exact ⟨by simp, HB3.out⟩
end Go.Proofs.YtjcefgjgjhdbpaaGreatDoor
