/-
  pool.Check and the document's: the contracts. Helper text; the conditions are those typed.
  The document's Check of a package: the contract. Helper text; the conditions are those typed.
-/
import Derived.Test.YtbdankpkdhhlmaaGreatChkC
namespace Go.Proofs.YtbdankpkdhhlmaaGreat
set_option linter.unusedVariables false
set_option linter.unusedSimpArgs false
open Go.RowKit Go.Maps

def archB (s : ByteArray) : Bool := allBy smallR s && (decide (1 ≤ (s.size : Int)) && decide ((s.size : Int) ≤ 20))
def vendB (s : ByteArray) : Bool := allBy shownR s && decide ((s.size : Int) ≤ 60)
def chk6 (a : Bool) (q : Int) (b c d e : Bool) : Int := if a = false then 60 else if q ≠ 0 then 61 else if b = false then 62 else if c = false then 63 else if d = false then 64 else if e = false then 65 else 0
/-- may a package be? -/
def pkgCheck (p : PkgT) : Int := chk6 (nameB p.name) (errOf (parse (bs p.evr))) (archB p.arch) (vendB p.vendor) (depsB p) (filesB p.files)

theorem arch_all (s : ByteArray) (w : World) : Calls Tryz.prog 83 #[.string s, .int .i64 20, .func (.func 81) #[] #[]] w fun e w' => e = .returned (.bool (decide ((s.size : Int) ≤ 20) && allBy smallR s)) ∧ Below w.heap.size w w' := by
  rw [← idx_by smallR (fun r => smallR_lt) s]
  exact within_c 81 enters22 smallR (fun w => small_at w) s 20 w
theorem vend_all (s : ByteArray) (w : World) : Calls Tryz.prog 83 #[.string s, .int .i64 60, .func (.func 82) #[] #[]] w fun e w' => e = .returned (.bool (vendB s)) ∧ Below w.heap.size w w' := by
  unfold vendB
  rw [← idx_by shownR (fun r => shownR_lt) s, Bool.and_comm]
  exact within_c 82 enters23 shownR (fun w => shown_at w) s 60 w
theorem arch_ways (s : ByteArray) : (s.toList.isEmpty = true ∧ archB s = false) ∨ (s.toList.isEmpty = false ∧ archB s = (decide ((s.size : Int) ≤ 20) && allBy smallR s)) := by
  unfold archB
  by_cases h : s.size = 0
  · left
    exact ⟨by rw [bs_toList, bs_nil.2 h]; rfl, by rw [decide_eq_false (p := 1 ≤ (s.size : Int)) (by omega), Bool.false_and, Bool.and_false]⟩
  · right
    exact ⟨bs_nonempty (by omega), by rw [decide_eq_true (p := 1 ≤ (s.size : Int)) (by omega), Bool.true_and, Bool.and_comm]⟩
theorem filesB_ways (l : List ByteArray) {n : Nat} (h : l.length = n) : (16 < (n : Int) ∧ filesB l = false) ∨ (¬ 16 < (n : Int) ∧ filesB l = l.all fileOk) := by
  unfold filesB
  by_cases h1 : 16 < (n : Int)
  · left; exact ⟨h1, by rw [decide_eq_false (by omega), Bool.false_and]⟩
  · right; exact ⟨h1, by rw [decide_eq_true (by omega), Bool.true_and]⟩
theorem StrsV.len {w : World} {S : Nat → Prop} {l : List ByteArray} {a : Option Addr} {n c : Nat} (h : StrsV w S l (.slice a n c)) : l.length = n := by
  obtain ⟨a2, c2, he, _⟩ := h
  injection he with _ h2 _
  exact h2.symm

set_option maxHeartbeats 4000000 in
set_option maxRecDepth 100000 in
/-- pool.Check. -/
theorem check_c (p : PkgT) (a : Fin 7 → Option Addr) (c : Fin 7 → Nat) (af : Option Addr) (nf cf : Nat) (S : Nat → Prop) (w : World) (h : PkgV w S p (fun i => .slice (a i) (p.n i) (c i)) (.slice af nf cf)) (hS : ∀ b, S b → b < w.heap.size) :
    Calls Tryz.prog 62 #[.agg #[.string p.name, .string p.evr, .string p.arch, .string p.vendor, .slice (a 0) (p.n 0) (c 0), .slice (a 1) (p.n 1) (c 1), .slice (a 2) (p.n 2) (c 2), .slice (a 3) (p.n 3) (c 3), .slice (a 4) (p.n 4) (c 4), .slice (a 5) (p.n 5) (c 5), .slice (a 6) (p.n 6) (c 6), .slice af nf cf]] w fun e w' => e = .returned (.int .i64 (pkgCheck p)) ∧ Below w.heap.size w w' := by
  have HN := name_c p.name
  have HP := parse_c p.evr h.evr
  unfold ParseRes at HP
  obtain ⟨x, y, z, hv⟩ := evrV_ex (parse (bs p.evr))
  rw [hv] at HP
  have HA := arch_all p.arch
  have HAW := arch_ways p.arch
  have HV := vend_all p.vendor
  have HF := fun (w' : World) (hb : Below w.heap.size w w') => filesA_c p.files af nf cf S w' (h.files.below hb)
  have HFW := filesB_ways p.files h.files.len
  have HD := fun (w' : World) (hb : Below w.heap.size w w') => deps_c p a c af nf cf S w' (h.below hb) (fun b hb' => Nat.lt_of_lt_of_le (hS b hb') hb.size)
  obtain ⟨RES, hRES⟩ : ∃ RES, pkgCheck p = RES := ⟨_, rfl⟩
  rw [hRES]
  unfold pkgCheck at hRES
  clear hv h hS
  generalize nameB p.name = bn at HN hRES
  generalize errOf (parse (bs p.evr)) = q at HP hRES
  generalize (decide ((p.arch.size : Int) ≤ 20) && allBy smallR p.arch) = baa at HA HAW
  generalize archB p.arch = ba at HAW hRES
  generalize vendB p.vendor = bv at HV hRES
  generalize depsB p = bd at HD hRES
  generalize p.files.all fileOk = bff at HF HFW
  generalize filesB p.files = bf at HFW hRES
  replace HN := Lib.hid HN
  replace HP := Lib.hid HP
  replace HA := Lib.hid HA
  replace HV := Lib.hid HV
  replace HD := Lib.hid HD
  replace HF := Lib.hid HF
  replace HAW := Lib.hid HAW
  replace HFW := Lib.hid HFW
  have hD := Lib.hid hRES.symm
  clear hRES
  obtain ⟨w1, e1⟩ : ∃ w1, w.alloc (.cells #[.string p.name, .string p.evr, .string p.arch, .string p.vendor, .slice (a 0) (p.n 0) (c 0), .slice (a 1) (p.n 1) (c 1), .slice (a 2) (p.n 2) (c 2), .slice (a 3) (p.n 3) (c 3), .slice (a 4) (p.n 4) (c 4), .slice (a 5) (p.n 5) (c 5), .slice (a 6) (p.n 6) (c 6), .slice af nf cf] 45) = w1 := ⟨_, rfl⟩
  have HB1 : Hid (Below w.heap.size w w1 ∧ BoxN w1 w.heap.size (pkgCells p.name p.evr p.arch p.vendor (fun i => .slice (a i) (p.n i) (c i)) (.slice af nf cf)) 45) := by
    rw [← e1]
    exact ⟨below1 _ _, boxN_alloc _ _ _⟩
  have p0 := HB1.out.2.cell (j := 0) rfl
  have p1 := HB1.out.2.cell (j := 1) rfl
  have p2 := HB1.out.2.cell (j := 2) rfl
  have p3 := HB1.out.2.cell (j := 3) rfl
  have p4 := HB1.out.2.cell (j := 4) rfl
  have p5 := HB1.out.2.cell (j := 5) rfl
  have p6 := HB1.out.2.cell (j := 6) rfl
  have p7 := HB1.out.2.cell (j := 7) rfl
  have p8 := HB1.out.2.cell (j := 8) rfl
  have p9 := HB1.out.2.cell (j := 9) rfl
  have p10 := HB1.out.2.cell (j := 10) rfl
  have p11 := HB1.out.2.cell (j := 11) rfl
  go_enter Tryz.func62, Tryz.ntmps62
  go_wp2_with fail
  refine (HP.out w1).mono ?_
  rintro e w2 ⟨rfl, hb⟩
  have HB2 : Hid (Below w.heap.size w w2 ∧ BoxN w2 w.heap.size (pkgCells p.name p.evr p.arch p.vendor (fun i => .slice (a i) (p.n i) (c i)) (.slice af nf cf)) 45) := ⟨below_tr HB1.out.1 hb, HB1.out.2.below hb⟩
  clear hb
  clear p0 p1 p2 p3 p4 p5 p6 p7 p8 p9 p10 p11
  have p0 := HB2.out.2.cell (j := 0) rfl
  have p1 := HB2.out.2.cell (j := 1) rfl
  have p2 := HB2.out.2.cell (j := 2) rfl
  have p3 := HB2.out.2.cell (j := 3) rfl
  have p4 := HB2.out.2.cell (j := 4) rfl
  have p5 := HB2.out.2.cell (j := 5) rfl
  have p6 := HB2.out.2.cell (j := 6) rfl
  have p7 := HB2.out.2.cell (j := 7) rfl
  have p8 := HB2.out.2.cell (j := 8) rfl
  have p9 := HB2.out.2.cell (j := 9) rfl
  have p10 := HB2.out.2.cell (j := 10) rfl
  have p11 := HB2.out.2.cell (j := 11) rfl
  obtain ⟨w3, e3⟩ : ∃ w3, w2.alloc (.cells #[.string x, .string y, .string z] 138) = w3 := ⟨_, rfl⟩
  have HB3 : Hid (Below w.heap.size w w3 ∧ BoxN w3 w.heap.size (pkgCells p.name p.evr p.arch p.vendor (fun i => .slice (a i) (p.n i) (c i)) (.slice af nf cf)) 45) := by
    have h2 : Below w2.heap.size w2 w3 := by rw [← e3]; exact below1 _ _
    exact ⟨below_tr HB2.out.1 h2, HB2.out.2.below h2⟩
  clear p0 p1 p2 p3 p4 p5 p6 p7 p8 p9 p10 p11
  have p0 := HB3.out.2.cell (j := 0) rfl
  have p1 := HB3.out.2.cell (j := 1) rfl
  have p2 := HB3.out.2.cell (j := 2) rfl
  have p3 := HB3.out.2.cell (j := 3) rfl
  have p4 := HB3.out.2.cell (j := 4) rfl
  have p5 := HB3.out.2.cell (j := 5) rfl
  have p6 := HB3.out.2.cell (j := 6) rfl
  have p7 := HB3.out.2.cell (j := 7) rfl
  have p8 := HB3.out.2.cell (j := 8) rfl
  have p9 := HB3.out.2.cell (j := 9) rfl
  have p10 := HB3.out.2.cell (j := 10) rfl
  have p11 := HB3.out.2.cell (j := 11) rfl
  go_wp2_with fail
  refine (HN.out w3).mono ?_
  rintro e w4 ⟨rfl, hb⟩
  have HB4 : Hid (Below w.heap.size w w4 ∧ BoxN w4 w.heap.size (pkgCells p.name p.evr p.arch p.vendor (fun i => .slice (a i) (p.n i) (c i)) (.slice af nf cf)) 45) := ⟨below_tr HB3.out.1 hb, HB3.out.2.below hb⟩
  clear hb
  clear p0 p1 p2 p3 p4 p5 p6 p7 p8 p9 p10 p11
  have p0 := HB4.out.2.cell (j := 0) rfl
  have p1 := HB4.out.2.cell (j := 1) rfl
  have p2 := HB4.out.2.cell (j := 2) rfl
  have p3 := HB4.out.2.cell (j := 3) rfl
  have p4 := HB4.out.2.cell (j := 4) rfl
  have p5 := HB4.out.2.cell (j := 5) rfl
  have p6 := HB4.out.2.cell (j := 6) rfl
  have p7 := HB4.out.2.cell (j := 7) rfl
  have p8 := HB4.out.2.cell (j := 8) rfl
  have p9 := HB4.out.2.cell (j := 9) rfl
  have p10 := HB4.out.2.cell (j := 10) rfl
  have p11 := HB4.out.2.cell (j := 11) rfl
  cases bn with
  | false =>
    go_wp2_with fail
    go_ret
    exact ⟨by rw [hD.out]; rfl, HB4.out.1⟩
  | true =>
  by_cases hq : q = 0
  case neg =>
    have hq1 : (q != 0) = true := by simpa using hq
    replace hq := Lib.hid hq
    go_wp2_with fail
    go_ret
    exact ⟨by rw [hD.out]; unfold chk6; rw [if_neg (by decide), if_pos hq.out]; rfl, HB4.out.1⟩
  subst hq
  rcases HAW.out with ⟨hz, hba⟩ | ⟨hz, hba⟩
  · subst hba
    go_wp2_with fail
    go_ret
    exact ⟨by rw [hD.out]; rfl, HB4.out.1⟩
  subst hba
  go_wp2_with fail
  refine (HA.out w4).mono ?_
  rintro e w5 ⟨rfl, hb⟩
  have HB5 : Hid (Below w.heap.size w w5 ∧ BoxN w5 w.heap.size (pkgCells p.name p.evr p.arch p.vendor (fun i => .slice (a i) (p.n i) (c i)) (.slice af nf cf)) 45) := ⟨below_tr HB4.out.1 hb, HB4.out.2.below hb⟩
  clear hb
  clear p0 p1 p2 p3 p4 p5 p6 p7 p8 p9 p10 p11
  have p0 := HB5.out.2.cell (j := 0) rfl
  have p1 := HB5.out.2.cell (j := 1) rfl
  have p2 := HB5.out.2.cell (j := 2) rfl
  have p3 := HB5.out.2.cell (j := 3) rfl
  have p4 := HB5.out.2.cell (j := 4) rfl
  have p5 := HB5.out.2.cell (j := 5) rfl
  have p6 := HB5.out.2.cell (j := 6) rfl
  have p7 := HB5.out.2.cell (j := 7) rfl
  have p8 := HB5.out.2.cell (j := 8) rfl
  have p9 := HB5.out.2.cell (j := 9) rfl
  have p10 := HB5.out.2.cell (j := 10) rfl
  have p11 := HB5.out.2.cell (j := 11) rfl
  cases ba with
  | false =>
    go_wp2_with fail
    go_ret
    exact ⟨by rw [hD.out]; rfl, HB5.out.1⟩
  | true =>
  go_wp2_with fail
  refine (HV.out w5).mono ?_
  rintro e w6 ⟨rfl, hb⟩
  have HB6 : Hid (Below w.heap.size w w6 ∧ BoxN w6 w.heap.size (pkgCells p.name p.evr p.arch p.vendor (fun i => .slice (a i) (p.n i) (c i)) (.slice af nf cf)) 45) := ⟨below_tr HB5.out.1 hb, HB5.out.2.below hb⟩
  clear hb
  clear p0 p1 p2 p3 p4 p5 p6 p7 p8 p9 p10 p11
  have p0 := HB6.out.2.cell (j := 0) rfl
  have p1 := HB6.out.2.cell (j := 1) rfl
  have p2 := HB6.out.2.cell (j := 2) rfl
  have p3 := HB6.out.2.cell (j := 3) rfl
  have p4 := HB6.out.2.cell (j := 4) rfl
  have p5 := HB6.out.2.cell (j := 5) rfl
  have p6 := HB6.out.2.cell (j := 6) rfl
  have p7 := HB6.out.2.cell (j := 7) rfl
  have p8 := HB6.out.2.cell (j := 8) rfl
  have p9 := HB6.out.2.cell (j := 9) rfl
  have p10 := HB6.out.2.cell (j := 10) rfl
  have p11 := HB6.out.2.cell (j := 11) rfl
  cases bv with
  | false =>
    go_wp2_with fail
    go_ret
    exact ⟨by rw [hD.out]; rfl, HB6.out.1⟩
  | true =>
  go_wp2_with fail
  refine (HD.out w6 HB6.out.1).mono ?_
  rintro e w7 ⟨rfl, hb⟩
  have HB7 : Hid (Below w.heap.size w w7 ∧ BoxN w7 w.heap.size (pkgCells p.name p.evr p.arch p.vendor (fun i => .slice (a i) (p.n i) (c i)) (.slice af nf cf)) 45) := ⟨below_tr HB6.out.1 hb, HB6.out.2.below hb⟩
  clear hb
  clear p0 p1 p2 p3 p4 p5 p6 p7 p8 p9 p10 p11
  have p0 := HB7.out.2.cell (j := 0) rfl
  have p1 := HB7.out.2.cell (j := 1) rfl
  have p2 := HB7.out.2.cell (j := 2) rfl
  have p3 := HB7.out.2.cell (j := 3) rfl
  have p4 := HB7.out.2.cell (j := 4) rfl
  have p5 := HB7.out.2.cell (j := 5) rfl
  have p6 := HB7.out.2.cell (j := 6) rfl
  have p7 := HB7.out.2.cell (j := 7) rfl
  have p8 := HB7.out.2.cell (j := 8) rfl
  have p9 := HB7.out.2.cell (j := 9) rfl
  have p10 := HB7.out.2.cell (j := 10) rfl
  have p11 := HB7.out.2.cell (j := 11) rfl
  cases bd with
  | false =>
    go_wp2_with fail
    go_ret
    exact ⟨by rw [hD.out]; rfl, HB7.out.1⟩
  | true =>
  rcases HFW.out with ⟨hz2, hbf⟩ | ⟨hz2, hbf⟩
  · subst hbf
    go_wp2_with fail
    go_ret
    exact ⟨by rw [hD.out]; rfl, HB7.out.1⟩
  subst hbf
  go_wp2_with fail
  refine (HF.out w7 HB7.out.1).mono ?_
  rintro e w8 ⟨rfl, hb⟩
  have HB8 : Hid (Below w.heap.size w w8 ∧ BoxN w8 w.heap.size (pkgCells p.name p.evr p.arch p.vendor (fun i => .slice (a i) (p.n i) (c i)) (.slice af nf cf)) 45) := ⟨below_tr HB7.out.1 hb, HB7.out.2.below hb⟩
  clear hb
  clear p0 p1 p2 p3 p4 p5 p6 p7 p8 p9 p10 p11
  have p0 := HB8.out.2.cell (j := 0) rfl
  have p1 := HB8.out.2.cell (j := 1) rfl
  have p2 := HB8.out.2.cell (j := 2) rfl
  have p3 := HB8.out.2.cell (j := 3) rfl
  have p4 := HB8.out.2.cell (j := 4) rfl
  have p5 := HB8.out.2.cell (j := 5) rfl
  have p6 := HB8.out.2.cell (j := 6) rfl
  have p7 := HB8.out.2.cell (j := 7) rfl
  have p8 := HB8.out.2.cell (j := 8) rfl
  have p9 := HB8.out.2.cell (j := 9) rfl
  have p10 := HB8.out.2.cell (j := 10) rfl
  have p11 := HB8.out.2.cell (j := 11) rfl
  cases bf with
  | false =>
    go_wp2_with fail
    go_ret
    exact ⟨by rw [hD.out]; rfl, HB8.out.1⟩
  | true =>
    go_wp2_with fail
    go_ret
    exact ⟨by rw [hD.out]; rfl, HB8.out.1⟩
end Go.Proofs.YtbdankpkdhhlmaaGreat
namespace Go.Proofs.YtbdankpkdhhlmaaGreat
set_option linter.unusedVariables false
set_option linter.unusedSimpArgs false
open Go.RowKit Go.Maps

theorem vend_ways (s : ByteArray) : (60 < (s.size : Int) ∧ vendB s = false) ∨ (¬ 60 < (s.size : Int) ∧ vendB s = allBy shownR s) := by
  unfold vendB
  by_cases h : 60 < (s.size : Int)
  · left; exact ⟨h, by rw [decide_eq_false (p := (s.size : Int) ≤ 60) (by omega), Bool.and_false]⟩
  · right; exact ⟨h, by rw [decide_eq_true (p := (s.size : Int) ≤ 60) (by omega), Bool.and_true]⟩
theorem vend_no (s : ByteArray) (h : allBy shownR s = false) : vendB s = false := by
  unfold vendB
  rw [h, Bool.false_and]

set_option maxHeartbeats 4000000 in
set_option maxRecDepth 100000 in
/-- The document's Check. -/
theorem rcheck_c (p : PkgT) (a : Fin 7 → Option Addr) (c : Fin 7 → Nat) (af : Option Addr) (nf cf : Nat) (S : Nat → Prop) (w : World) (h : PkgV w S p (fun i => .slice (a i) (p.n i) (c i)) (.slice af nf cf)) :
    Calls Tryz.prog 64 #[.agg #[.string p.name, .string p.evr, .string p.arch, .string p.vendor, .slice (a 0) (p.n 0) (c 0), .slice (a 1) (p.n 1) (c 1), .slice (a 2) (p.n 2) (c 2), .slice (a 3) (p.n 3) (c 3), .slice (a 4) (p.n 4) (c 4), .slice (a 5) (p.n 5) (c 5), .slice (a 6) (p.n 6) (c 6), .slice af nf cf]] w fun e w' => e = .returned (.int .i64 (pkgCheck p)) ∧ Below w.heap.size w w' := by
  have HN := rname_c p.name
  have HP := rparse_c p.evr h.evr
  unfold ParseX at HP
  obtain ⟨x, y, z, hv⟩ := evrV_ex (parse (bs p.evr))
  rw [hv] at HP
  have HA : ∀ w, Calls Tryz.prog 94 #[.string p.arch] w fun e w' => e = .returned (.bool (archB p.arch)) ∧ w = w' := rarch_c p.arch h.arch
  have HV := rshown_c p.vendor h.vendor
  have HVW := vend_ways p.vendor
  have HVN := vend_no p.vendor
  have HF := fun (w' : World) (hb : Below w.heap.size w w') => rfiles_c p.files af nf cf S w' (h.files.below hb)
  have HD := fun (w' : World) (hb : Below w.heap.size w w') => rdeps_c p a c af nf cf S w' (h.below hb)
  obtain ⟨RES, hRES⟩ : ∃ RES, pkgCheck p = RES := ⟨_, rfl⟩
  rw [hRES]
  unfold pkgCheck at hRES
  clear hv h
  generalize nameB p.name = bn at HN hRES
  generalize errOf (parse (bs p.evr)) = q at HP hRES
  generalize archB p.arch = ba at HA hRES
  generalize allBy shownR p.vendor = bs at HV HVW HVN
  generalize vendB p.vendor = bv at HVW HVN hRES
  generalize depsB p = bd at HD hRES
  generalize filesB p.files = bf at HF hRES
  replace HN := Lib.hid HN
  replace HP := Lib.hid HP
  replace HA := Lib.hid HA
  replace HV := Lib.hid HV
  replace HVW := Lib.hid HVW
  replace HVN := Lib.hid HVN
  replace HD := Lib.hid HD
  replace HF := Lib.hid HF
  have hD := Lib.hid hRES.symm
  clear hRES
  obtain ⟨w1, e1⟩ : ∃ w1, w.alloc (.cells #[.string p.name, .string p.evr, .string p.arch, .string p.vendor, .slice (a 0) (p.n 0) (c 0), .slice (a 1) (p.n 1) (c 1), .slice (a 2) (p.n 2) (c 2), .slice (a 3) (p.n 3) (c 3), .slice (a 4) (p.n 4) (c 4), .slice (a 5) (p.n 5) (c 5), .slice (a 6) (p.n 6) (c 6), .slice af nf cf] 45) = w1 := ⟨_, rfl⟩
  have HB1 : Hid (Below w.heap.size w w1 ∧ BoxN w1 w.heap.size (pkgCells p.name p.evr p.arch p.vendor (fun i => .slice (a i) (p.n i) (c i)) (.slice af nf cf)) 45) := by
    rw [← e1]
    exact ⟨below1 _ _, boxN_alloc _ _ _⟩
  have p0 := HB1.out.2.cell (j := 0) rfl
  have p1 := HB1.out.2.cell (j := 1) rfl
  have p2 := HB1.out.2.cell (j := 2) rfl
  have p3 := HB1.out.2.cell (j := 3) rfl
  have p4 := HB1.out.2.cell (j := 4) rfl
  have p5 := HB1.out.2.cell (j := 5) rfl
  have p6 := HB1.out.2.cell (j := 6) rfl
  have p7 := HB1.out.2.cell (j := 7) rfl
  have p8 := HB1.out.2.cell (j := 8) rfl
  have p9 := HB1.out.2.cell (j := 9) rfl
  have p10 := HB1.out.2.cell (j := 10) rfl
  have p11 := HB1.out.2.cell (j := 11) rfl
  go_enter Tryz.func64, Tryz.ntmps64
  go_wp2_with fail
  refine (HN.out w1).mono ?_
  rintro e W9 ⟨rfl, rfl⟩
  cases bn with
  | false =>
    go_wp2_with fail
    go_ret
    exact ⟨by rw [hD.out]; rfl, HB1.out.1⟩
  | true =>
  go_wp2_with fail
  refine (HP.out w1).mono ?_
  rintro e w2 ⟨rfl, hb⟩
  have HB2 : Hid (Below w.heap.size w w2 ∧ BoxN w2 w.heap.size (pkgCells p.name p.evr p.arch p.vendor (fun i => .slice (a i) (p.n i) (c i)) (.slice af nf cf)) 45) := ⟨below_tr HB1.out.1 hb, HB1.out.2.below hb⟩
  clear hb
  clear p0 p1 p2 p3 p4 p5 p6 p7 p8 p9 p10 p11
  have p0 := HB2.out.2.cell (j := 0) rfl
  have p1 := HB2.out.2.cell (j := 1) rfl
  have p2 := HB2.out.2.cell (j := 2) rfl
  have p3 := HB2.out.2.cell (j := 3) rfl
  have p4 := HB2.out.2.cell (j := 4) rfl
  have p5 := HB2.out.2.cell (j := 5) rfl
  have p6 := HB2.out.2.cell (j := 6) rfl
  have p7 := HB2.out.2.cell (j := 7) rfl
  have p8 := HB2.out.2.cell (j := 8) rfl
  have p9 := HB2.out.2.cell (j := 9) rfl
  have p10 := HB2.out.2.cell (j := 10) rfl
  have p11 := HB2.out.2.cell (j := 11) rfl
  obtain ⟨w3, e3⟩ : ∃ w3, w2.alloc (.cells #[.string x, .string y, .string z] 138) = w3 := ⟨_, rfl⟩
  have HB3 : Hid (Below w.heap.size w w3 ∧ BoxN w3 w.heap.size (pkgCells p.name p.evr p.arch p.vendor (fun i => .slice (a i) (p.n i) (c i)) (.slice af nf cf)) 45) := by
    have h2 : Below w2.heap.size w2 w3 := by rw [← e3]; exact below1 _ _
    exact ⟨below_tr HB2.out.1 h2, HB2.out.2.below h2⟩
  clear p0 p1 p2 p3 p4 p5 p6 p7 p8 p9 p10 p11
  have p0 := HB3.out.2.cell (j := 0) rfl
  have p1 := HB3.out.2.cell (j := 1) rfl
  have p2 := HB3.out.2.cell (j := 2) rfl
  have p3 := HB3.out.2.cell (j := 3) rfl
  have p4 := HB3.out.2.cell (j := 4) rfl
  have p5 := HB3.out.2.cell (j := 5) rfl
  have p6 := HB3.out.2.cell (j := 6) rfl
  have p7 := HB3.out.2.cell (j := 7) rfl
  have p8 := HB3.out.2.cell (j := 8) rfl
  have p9 := HB3.out.2.cell (j := 9) rfl
  have p10 := HB3.out.2.cell (j := 10) rfl
  have p11 := HB3.out.2.cell (j := 11) rfl
  by_cases hq : q = 0
  case neg =>
    have hq1 : (q != 0) = true := by simpa using hq
    replace hq := Lib.hid hq
    go_wp2_with fail
    go_ret
    exact ⟨by rw [hD.out]; unfold chk6; rw [if_neg (by decide), if_pos hq.out]; rfl, HB3.out.1⟩
  subst hq
  go_wp2_with fail
  refine (HA.out w3).mono ?_
  rintro e W9 ⟨rfl, rfl⟩
  cases ba with
  | false =>
    go_wp2_with fail
    go_ret
    exact ⟨by rw [hD.out]; rfl, HB3.out.1⟩
  | true =>
  go_wp2_with fail
  refine (HV.out w3).mono ?_
  rintro e W9 ⟨rfl, rfl⟩
  cases bs with
  | false =>
    have hvv := HVN.out rfl
    subst hvv
    go_wp2_with fail
    go_ret
    exact ⟨by rw [hD.out]; rfl, HB3.out.1⟩
  | true =>
  rcases HVW.out with ⟨hz, hbv⟩ | ⟨hz, hbv⟩
  · subst hbv
    go_wp2_with fail
    go_ret
    exact ⟨by rw [hD.out]; rfl, HB3.out.1⟩
  subst hbv
  go_wp2_with fail
  refine (HD.out w3 HB3.out.1).mono ?_
  rintro e w7 ⟨rfl, hb⟩
  have HB7 : Hid (Below w.heap.size w w7 ∧ BoxN w7 w.heap.size (pkgCells p.name p.evr p.arch p.vendor (fun i => .slice (a i) (p.n i) (c i)) (.slice af nf cf)) 45) := ⟨below_tr HB3.out.1 hb, HB3.out.2.below hb⟩
  clear hb
  clear p0 p1 p2 p3 p4 p5 p6 p7 p8 p9 p10 p11
  have p0 := HB7.out.2.cell (j := 0) rfl
  have p1 := HB7.out.2.cell (j := 1) rfl
  have p2 := HB7.out.2.cell (j := 2) rfl
  have p3 := HB7.out.2.cell (j := 3) rfl
  have p4 := HB7.out.2.cell (j := 4) rfl
  have p5 := HB7.out.2.cell (j := 5) rfl
  have p6 := HB7.out.2.cell (j := 6) rfl
  have p7 := HB7.out.2.cell (j := 7) rfl
  have p8 := HB7.out.2.cell (j := 8) rfl
  have p9 := HB7.out.2.cell (j := 9) rfl
  have p10 := HB7.out.2.cell (j := 10) rfl
  have p11 := HB7.out.2.cell (j := 11) rfl
  cases bd with
  | false =>
    go_wp2_with fail
    go_ret
    exact ⟨by rw [hD.out]; rfl, HB7.out.1⟩
  | true =>
  go_wp2_with fail
  refine (HF.out w7 HB7.out.1).mono ?_
  rintro e W9 ⟨rfl, rfl⟩
  cases bf with
  | false =>
    go_wp2_with fail
    go_ret
    exact ⟨by rw [hD.out]; rfl, HB7.out.1⟩
  | true =>
    go_wp2_with fail
    go_ret
    exact ⟨by rw [hD.out]; rfl, HB7.out.1⟩
end Go.Proofs.YtbdankpkdhhlmaaGreat
