/-
  The document's Check of a package: the contract. Helper text; the conditions are those typed.
-/
import Derived.Test.YtjcefgjgjhdbpaaGreatDoorChkD
namespace Go.Proofs.YtjcefgjgjhdbpaaGreatDoor
set_option linter.unusedVariables false
set_option linter.unusedSimpArgs false
open Go.RowKit Go.Maps

theorem vend_ways (s : ByteArray) : (60 < (s.size : Int) ∧ vendB s = false) ∨ (¬ 60 < (s.size : Int) ∧ vendB s = allBy shownR s) := by
  unfold vendB
  by_cases h : 60 < (s.size : Int)
  · left; exact ⟨h, by rw [decide_eq_false (p := (s.size : Int) ≤ 60) (by omega), Bool.and_false]⟩
  · right; exact ⟨h, by rw [decide_eq_true (p := (s.size : Int) ≤ 60) (by omega), Bool.and_true]⟩
theorem vend_no (s : ByteArray) (h : allBy shownR s = false) : vendB s = false := by
  unfold vendB
  rw [h, Bool.false_and]

set_option maxHeartbeats 4000000 in
set_option maxRecDepth 100000 in
/-- The document's Check. -/
theorem rcheck_c (p : PkgT) (a : Fin 7 → Option Addr) (c : Fin 7 → Nat) (af : Option Addr) (nf cf : Nat) (S : Nat → Prop) (w : World) (h : PkgV w S p (fun i => .slice (a i) (p.n i) (c i)) (.slice af nf cf)) :
    Calls Tryz.prog 34 #[.agg #[.string p.name, .string p.evr, .string p.arch, .string p.vendor, .slice (a 0) (p.n 0) (c 0), .slice (a 1) (p.n 1) (c 1), .slice (a 2) (p.n 2) (c 2), .slice (a 3) (p.n 3) (c 3), .slice (a 4) (p.n 4) (c 4), .slice (a 5) (p.n 5) (c 5), .slice (a 6) (p.n 6) (c 6), .slice af nf cf]] w fun e w' => e = .returned (.int .i64 (pkgCheck p)) ∧ Below w.heap.size w w' := by
  have HN := rname_c p.name
  have HP := rparse_c p.evr h.evr
  unfold ParseX at HP
  obtain ⟨x, y, z, hv⟩ := evrV_ex (parse (bs p.evr))
  rw [hv] at HP
  have HA : ∀ w, Calls Tryz.prog 77 #[.string p.arch] w fun e w' => e = .returned (.bool (archB p.arch)) ∧ w = w' := rarch_c p.arch h.arch
  have HV := rshown_c p.vendor h.vendor
  have HVW := vend_ways p.vendor
  have HVN := vend_no p.vendor
  have HF := fun (w' : World) (hb : Below w.heap.size w w') => rfiles_c p.files af nf cf S w' (h.files.below hb)
  have HD := fun (w' : World) (hb : Below w.heap.size w w') => rdeps_c p a c af nf cf S w' (h.below hb)
  obtain ⟨RES, hRES⟩ : ∃ RES, pkgCheck p = RES := ⟨_, rfl⟩
  rw [hRES]
  unfold pkgCheck at hRES
  clear hv h
  generalize nameB p.name = bn at HN hRES
  generalize errOf (parse (bs p.evr)) = q at HP hRES
  generalize archB p.arch = ba at HA hRES
  generalize allBy shownR p.vendor = bs at HV HVW HVN
  generalize vendB p.vendor = bv at HVW HVN hRES
  generalize depsB p = bd at HD hRES
  generalize filesB p.files = bf at HF hRES
  replace HN := Lib.hid HN
  replace HP := Lib.hid HP
  replace HA := Lib.hid HA
  replace HV := Lib.hid HV
  replace HVW := Lib.hid HVW
  replace HVN := Lib.hid HVN
  replace HD := Lib.hid HD
  replace HF := Lib.hid HF
  have hD := Lib.hid hRES.symm
  clear hRES
  obtain ⟨w1, e1⟩ : ∃ w1, w.alloc (.cells #[.string p.name, .string p.evr, .string p.arch, .string p.vendor, .slice (a 0) (p.n 0) (c 0), .slice (a 1) (p.n 1) (c 1), .slice (a 2) (p.n 2) (c 2), .slice (a 3) (p.n 3) (c 3), .slice (a 4) (p.n 4) (c 4), .slice (a 5) (p.n 5) (c 5), .slice (a 6) (p.n 6) (c 6), .slice af nf cf] 36) = w1 := ⟨_, rfl⟩
  have HB1 : Hid (Below w.heap.size w w1 ∧ BoxN w1 w.heap.size (pkgCells p.name p.evr p.arch p.vendor (fun i => .slice (a i) (p.n i) (c i)) (.slice af nf cf)) 36) := by
    rw [← e1]
    exact ⟨below1 _ _, boxN_alloc _ _ _⟩
  have p0 := HB1.out.2.cell (j := 0) rfl
  have p1 := HB1.out.2.cell (j := 1) rfl
  have p2 := HB1.out.2.cell (j := 2) rfl
  have p3 := HB1.out.2.cell (j := 3) rfl
  have p4 := HB1.out.2.cell (j := 4) rfl
  have p5 := HB1.out.2.cell (j := 5) rfl
  have p6 := HB1.out.2.cell (j := 6) rfl
  have p7 := HB1.out.2.cell (j := 7) rfl
  have p8 := HB1.out.2.cell (j := 8) rfl
  have p9 := HB1.out.2.cell (j := 9) rfl
  have p10 := HB1.out.2.cell (j := 10) rfl
  have p11 := HB1.out.2.cell (j := 11) rfl
  go_enter Tryz.func34, Tryz.ntmps34
  go_wp2_with fail
  refine (HN.out w1).mono ?_
  rintro e W9 ⟨rfl, rfl⟩
  cases bn with
  | false =>
    go_wp2_with fail
    go_ret
    exact ⟨by rw [hD.out]; rfl, HB1.out.1⟩
  | true =>
  go_wp2_with fail
  refine (HP.out w1).mono ?_
  rintro e w2 ⟨rfl, hb⟩
  have HB2 : Hid (Below w.heap.size w w2 ∧ BoxN w2 w.heap.size (pkgCells p.name p.evr p.arch p.vendor (fun i => .slice (a i) (p.n i) (c i)) (.slice af nf cf)) 36) := ⟨below_tr HB1.out.1 hb, HB1.out.2.below hb⟩
  clear hb
  clear p0 p1 p2 p3 p4 p5 p6 p7 p8 p9 p10 p11
  have p0 := HB2.out.2.cell (j := 0) rfl
  have p1 := HB2.out.2.cell (j := 1) rfl
  have p2 := HB2.out.2.cell (j := 2) rfl
  have p3 := HB2.out.2.cell (j := 3) rfl
  have p4 := HB2.out.2.cell (j := 4) rfl
  have p5 := HB2.out.2.cell (j := 5) rfl
  have p6 := HB2.out.2.cell (j := 6) rfl
  have p7 := HB2.out.2.cell (j := 7) rfl
  have p8 := HB2.out.2.cell (j := 8) rfl
  have p9 := HB2.out.2.cell (j := 9) rfl
  have p10 := HB2.out.2.cell (j := 10) rfl
  have p11 := HB2.out.2.cell (j := 11) rfl
  obtain ⟨w3, e3⟩ : ∃ w3, w2.alloc (.cells #[.string x, .string y, .string z] 97) = w3 := ⟨_, rfl⟩
  have HB3 : Hid (Below w.heap.size w w3 ∧ BoxN w3 w.heap.size (pkgCells p.name p.evr p.arch p.vendor (fun i => .slice (a i) (p.n i) (c i)) (.slice af nf cf)) 36) := by
    have h2 : Below w2.heap.size w2 w3 := by rw [← e3]; exact below1 _ _
    exact ⟨below_tr HB2.out.1 h2, HB2.out.2.below h2⟩
  clear p0 p1 p2 p3 p4 p5 p6 p7 p8 p9 p10 p11
  have p0 := HB3.out.2.cell (j := 0) rfl
  have p1 := HB3.out.2.cell (j := 1) rfl
  have p2 := HB3.out.2.cell (j := 2) rfl
  have p3 := HB3.out.2.cell (j := 3) rfl
  have p4 := HB3.out.2.cell (j := 4) rfl
  have p5 := HB3.out.2.cell (j := 5) rfl
  have p6 := HB3.out.2.cell (j := 6) rfl
  have p7 := HB3.out.2.cell (j := 7) rfl
  have p8 := HB3.out.2.cell (j := 8) rfl
  have p9 := HB3.out.2.cell (j := 9) rfl
  have p10 := HB3.out.2.cell (j := 10) rfl
  have p11 := HB3.out.2.cell (j := 11) rfl
  by_cases hq : q = 0
  case neg =>
    have hq1 : (q != 0) = true := by simpa using hq
    replace hq := Lib.hid hq
    go_wp2_with fail
    go_ret
    exact ⟨by rw [hD.out]; unfold chk6; rw [if_neg (by decide), if_pos hq.out]; rfl, HB3.out.1⟩
  subst hq
  go_wp2_with fail
  refine (HA.out w3).mono ?_
  rintro e W9 ⟨rfl, rfl⟩
  cases ba with
  | false =>
    go_wp2_with fail
    go_ret
    exact ⟨by rw [hD.out]; rfl, HB3.out.1⟩
  | true =>
  go_wp2_with fail
  refine (HV.out w3).mono ?_
  rintro e W9 ⟨rfl, rfl⟩
  cases bs with
  | false =>
    have hvv := HVN.out rfl
    subst hvv
    go_wp2_with fail
    go_ret
    exact ⟨by rw [hD.out]; rfl, HB3.out.1⟩
  | true =>
  rcases HVW.out with ⟨hz, hbv⟩ | ⟨hz, hbv⟩
  · subst hbv
    go_wp2_with fail
    go_ret
    exact ⟨by rw [hD.out]; rfl, HB3.out.1⟩
  subst hbv
  go_wp2_with fail
  refine (HD.out w3 HB3.out.1).mono ?_
  rintro e w7 ⟨rfl, hb⟩
  have HB7 : Hid (Below w.heap.size w w7 ∧ BoxN w7 w.heap.size (pkgCells p.name p.evr p.arch p.vendor (fun i => .slice (a i) (p.n i) (c i)) (.slice af nf cf)) 36) := ⟨below_tr HB3.out.1 hb, HB3.out.2.below hb⟩
  clear hb
  clear p0 p1 p2 p3 p4 p5 p6 p7 p8 p9 p10 p11
  have p0 := HB7.out.2.cell (j := 0) rfl
  have p1 := HB7.out.2.cell (j := 1) rfl
  have p2 := HB7.out.2.cell (j := 2) rfl
  have p3 := HB7.out.2.cell (j := 3) rfl
  have p4 := HB7.out.2.cell (j := 4) rfl
  have p5 := HB7.out.2.cell (j := 5) rfl
  have p6 := HB7.out.2.cell (j := 6) rfl
  have p7 := HB7.out.2.cell (j := 7) rfl
  have p8 := HB7.out.2.cell (j := 8) rfl
  have p9 := HB7.out.2.cell (j := 9) rfl
  have p10 := HB7.out.2.cell (j := 10) rfl
  have p11 := HB7.out.2.cell (j := 11) rfl
  cases bd with
  | false =>
    go_wp2_with fail
    go_ret
    exact ⟨by rw [hD.out]; rfl, HB7.out.1⟩
  | true =>
  go_wp2_with fail
  refine (HF.out w7 HB7.out.1).mono ?_
  rintro e W9 ⟨rfl, rfl⟩
  cases bf with
  | false =>
    go_wp2_with fail
    go_ret
    exact ⟨by rw [hD.out]; rfl, HB7.out.1⟩
  | true =>
    go_wp2_with fail
    go_ret
    exact ⟨by rw [hD.out]; rfl, HB7.out.1⟩
end Go.Proofs.YtjcefgjgjhdbpaaGreatDoor
