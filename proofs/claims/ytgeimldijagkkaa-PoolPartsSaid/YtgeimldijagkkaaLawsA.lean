/-
  The walks of the laws: PoolNames, PoolNil, PoolChecks. Helper text; the conditions are those typed.
-/
import Derived.Test.YtgeimldijagkkaaPkgA
import Derived.Test.YtgeimldijagkkaaArgPkg
import Derived.Deep.Cut
namespace Go.Proofs.Ytgeimldijagkkaa
set_option linter.unusedVariables false
set_option linter.unusedSimpArgs false
open Go.RowKit Go.Maps

/-- What awake says. -/
def AwakeC : Prop := ∀ w : World, Calls Try.prog 8 #[] w fun e w' => e = .returned (.bool true) ∧ Below w.heap.size w w'

theorem poolNames_walk (HA : Hid AwakeC) (w : World) : Calls Try.prog 3 #[] w fun e w' => e = .returned (.bool true) ∧ Below w.heap.size w w' := by
  go_enter Try.func3, Try.ntmps3
  go_wp2_with fail
  refine (HA.out w).mono ?_
  rintro e w1 ⟨rfl, hb1⟩
  replace hb1 := Lib.hid hb1
  go_wp2_with fail
  go_ret
  exact ⟨rfl, hb1.out⟩

set_option maxHeartbeats 2000000 in
set_option maxRecDepth 100000 in
theorem package_nil (id : Int) (w : World) : Calls Try.prog 16 #[.pointer none, .int .i64 id] w fun e w' => e = .returned (.tuple #[.agg #[.string ⟨#[]⟩, .string ⟨#[]⟩, .string ⟨#[]⟩, .string ⟨#[]⟩, .slice none 0 0, .slice none 0 0, .slice none 0 0, .slice none 0 0, .slice none 0 0, .slice none 0 0, .slice none 0 0, .slice none 0 0], .int .i64 0, .int .i64 1]) ∧ Below w.heap.size w w' := by
  have HB : Hid (Below w.heap.size w (w.alloc (.cells #[.string ⟨#[]⟩, .string ⟨#[]⟩, .string ⟨#[]⟩, .string ⟨#[]⟩, .slice none 0 0, .slice none 0 0, .slice none 0 0, .slice none 0 0, .slice none 0 0, .slice none 0 0, .slice none 0 0, .slice none 0 0] 26))) := below1 _ _
  go_enter Try.func16, Try.ntmps16
  go_wp2_with fail
  refine bodyPost_ret (v := .tuple #[.agg #[.string ⟨#[]⟩, .string ⟨#[]⟩, .string ⟨#[]⟩, .string ⟨#[]⟩, .slice none 0 0, .slice none 0 0, .slice none 0 0, .slice none 0 0, .slice none 0 0, .slice none 0 0, .slice none 0 0, .slice none 0 0], .int .i64 0, .int .i64 1]) (by simp [results, Try.results16, go_sem]) rfl ?_
  exact ⟨rfl, HB.out⟩

set_option maxHeartbeats 4000000 in
set_option maxRecDepth 100000 in
theorem poolNil_walk (HA : Hid AwakeC) (nm : ByteArray) (pr : Int) (ins : Bool) (ap : Option Addr) (np cp : Nat) (id : Int) (s : ByteArray) (w : World) :
    Calls Try.prog 7 #[.agg #[.string nm, .int .i64 pr, .bool ins, .slice ap np cp], .int .i64 id, .string s] w fun e w' => e = .returned (.bool true) ∧ Below w.heap.size w w' := by
  obtain ⟨w1, e1⟩ : ∃ w1, w.alloc (.cells #[.string nm, .int .i64 pr, .bool ins, .slice ap np cp] 34) = w1 := ⟨_, rfl⟩
  have HB1 : Hid (Below w.heap.size w w1 ∧ BoxN w1 w.heap.size [.string nm, .int .i64 pr, .bool ins, .slice ap np cp] 34) := by
    rw [← e1]
    exact ⟨below1 _ _, boxN_alloc _ _ _⟩
  go_enter Try.func7, Try.ntmps7
  go_wp2_with fail
  refine (HA.out w1).mono ?_
  rintro e w2 ⟨rfl, hb2⟩
  have HB2 : Hid (Below w.heap.size w w2 ∧ BoxN w2 w.heap.size [.string nm, .int .i64 pr, .bool ins, .slice ap np cp] 34) := ⟨below_tr HB1.out.1 hb2, HB1.out.2.below hb2⟩
  clear hb2 e1
  go_wp2_with fail
  refine (package_nil id w2).mono ?_
  rintro e w3 ⟨rfl, hb3⟩
  have HB3 : Hid (Below w.heap.size w w3 ∧ BoxN w3 w.heap.size [.string nm, .int .i64 pr, .bool ins, .slice ap np cp] 34) := ⟨below_tr HB2.out.1 hb3, HB2.out.2.below hb3⟩
  clear hb3
  go_upto_region 6 with fail
  obtain ⟨w4, e4⟩ : ∃ w4, w3.alloc (.cells #[.string ⟨#[]⟩, .string ⟨#[]⟩, .string ⟨#[]⟩, .string ⟨#[]⟩, .slice none 0 0, .slice none 0 0, .slice none 0 0, .slice none 0 0, .slice none 0 0, .slice none 0 0, .slice none 0 0, .slice none 0 0] 26) = w4 := ⟨_, rfl⟩
  have HB4 : Hid (Below w.heap.size w w4 ∧ BoxN w4 w.heap.size [.string nm, .int .i64 pr, .bool ins, .slice ap np cp] 34 ∧ BoxN w4 w3.heap.size (#[.string ⟨#[]⟩, .string ⟨#[]⟩, .string ⟨#[]⟩, .string ⟨#[]⟩, .slice none 0 0, .slice none 0 0, .slice none 0 0, .slice none 0 0, .slice none 0 0, .slice none 0 0, .slice none 0 0, .slice none 0 0]).toList 26) := by
    rw [← e4]
    exact ⟨below_tr HB3.out.1 (below1 _ _), HB3.out.2.below (below1 _ _), boxN_alloc _ _ _⟩
  have p0 := HB4.out.2.1.cell (j := 0) rfl
  have p1 := HB4.out.2.1.cell (j := 1) rfl
  have p2 := HB4.out.2.1.cell (j := 2) rfl
  have p3 := HB4.out.2.1.cell (j := 3) rfl
  go_wp2_with fail
  refine (add_nil _ w4 _ _ _ _ rfl).mono ?_
  rintro e w5 ⟨rfl, hb5⟩
  have HB5 : Hid (Below w.heap.size w w5 ∧ BoxN w5 w3.heap.size (#[.string ⟨#[]⟩, .string ⟨#[]⟩, .string ⟨#[]⟩, .string ⟨#[]⟩, .slice none 0 0, .slice none 0 0, .slice none 0 0, .slice none 0 0, .slice none 0 0, .slice none 0 0, .slice none 0 0, .slice none 0 0]).toList 26) := ⟨below_tr HB4.out.1 hb5, HB4.out.2.2.below hb5⟩
  clear hb5 e4 p0 p1 p2 p3
  have q0 := HB5.out.2.cell (j := 0) rfl
  go_wp2_with fail
  refine (kind_nil w5).mono ?_
  rintro e w6 ⟨rfl, rfl⟩
  go_wp2_with fail
  refine (len_nil w5).mono ?_
  rintro e w6 ⟨rfl, rfl⟩
  go_wp2_with fail
  refine (repos_nil w5).mono ?_
  rintro e w6 ⟨rfl, rfl⟩
  go_wp2_with fail
  refine (installed_nil w5).mono ?_
  rintro e w6 ⟨rfl, rfl⟩
  go_wp2_with fail
  refine (named_nil s w5).mono ?_
  rintro e w6 ⟨rfl, rfl⟩
  go_wp2_with fail
  go_ret
  exact ⟨rfl, HB5.out.1⟩

set_option maxHeartbeats 4000000 in
set_option maxRecDepth 100000 in
theorem poolChecks_walk (HA : Hid AwakeC) (p : PkgT) (a : Fin 7 → Option Addr) (c : Fin 7 → Nat) (af : Option Addr) (nf cf : Nat) (w : World) (h : PkgV w (· < w.heap.size) p (fun i => .slice (a i) (p.n i) (c i)) (.slice af nf cf)) (hsz : p.name.size + p.evr.size + p.arch.size + 2 ≤ 9223372036854775807) :
    Calls Try.prog 4 #[.agg #[.string p.name, .string p.evr, .string p.arch, .string p.vendor, .slice (a 0) (p.n 0) (c 0), .slice (a 1) (p.n 1) (c 1), .slice (a 2) (p.n 2) (c 2), .slice (a 3) (p.n 3) (c 3), .slice (a 4) (p.n 4) (c 4), .slice (a 5) (p.n 5) (c 5), .slice (a 6) (p.n 6) (c 6), .slice af nf cf]] w fun e w' => e = .returned (.bool true) ∧ Below w.heap.size w w' := by
  obtain ⟨w1, e1⟩ : ∃ w1, w.alloc (.cells #[.string p.name, .string p.evr, .string p.arch, .string p.vendor, .slice (a 0) (p.n 0) (c 0), .slice (a 1) (p.n 1) (c 1), .slice (a 2) (p.n 2) (c 2), .slice (a 3) (p.n 3) (c 3), .slice (a 4) (p.n 4) (c 4), .slice (a 5) (p.n 5) (c 5), .slice (a 6) (p.n 6) (c 6), .slice af nf cf] 26) = w1 := ⟨_, rfl⟩
  have HB1 : Hid (Below w.heap.size w w1 ∧ BoxN w1 w.heap.size (pkgCells p.name p.evr p.arch p.vendor (fun i => .slice (a i) (p.n i) (c i)) (.slice af nf cf)) 26) := by
    rw [← e1]
    exact ⟨below1 _ _, boxN_alloc _ _ _⟩
  have HH := Lib.hid h
  have HSZ := Lib.hid hsz
  clear h hsz
  go_enter Try.func4, Try.ntmps4
  go_wp2_with fail
  refine (HA.out w1).mono ?_
  rintro e w2 ⟨rfl, hb2⟩
  have HB2 : Hid (Below w.heap.size w w2 ∧ BoxN w2 w.heap.size (pkgCells p.name p.evr p.arch p.vendor (fun i => .slice (a i) (p.n i) (c i)) (.slice af nf cf)) 26) := ⟨below_tr HB1.out.1 hb2, HB1.out.2.below hb2⟩
  clear hb2 e1
  have HS : Hid (∀ W, Below w2.heap.size w2 W → W.cell? ⟨w.heap.size, 0, none⟩ = some (.string p.name) ∧ W.cell? ⟨w.heap.size, 1, none⟩ = some (.string p.evr) ∧ W.cell? ⟨w.heap.size, 2, none⟩ = some (.string p.arch) ∧ W.cell? ⟨w.heap.size, 3, none⟩ = some (.string p.vendor) ∧ W.cell? ⟨w.heap.size, 4, none⟩ = some (.slice (a 0) (p.n 0) (c 0)) ∧ W.cell? ⟨w.heap.size, 5, none⟩ = some (.slice (a 1) (p.n 1) (c 1)) ∧ W.cell? ⟨w.heap.size, 6, none⟩ = some (.slice (a 2) (p.n 2) (c 2)) ∧ W.cell? ⟨w.heap.size, 7, none⟩ = some (.slice (a 3) (p.n 3) (c 3)) ∧ W.cell? ⟨w.heap.size, 8, none⟩ = some (.slice (a 4) (p.n 4) (c 4)) ∧ W.cell? ⟨w.heap.size, 9, none⟩ = some (.slice (a 5) (p.n 5) (c 5)) ∧ W.cell? ⟨w.heap.size, 10, none⟩ = some (.slice (a 6) (p.n 6) (c 6)) ∧ W.cell? ⟨w.heap.size, 11, none⟩ = some (.slice af nf cf)) := fun W hb => by
    have h1 := HB2.out.2.below hb
    exact ⟨h1.cell (j := 0) rfl, h1.cell (j := 1) rfl, h1.cell (j := 2) rfl, h1.cell (j := 3) rfl, h1.cell (j := 4) rfl, h1.cell (j := 5) rfl, h1.cell (j := 6) rfl, h1.cell (j := 7) rfl, h1.cell (j := 8) rfl, h1.cell (j := 9) rfl, h1.cell (j := 10) rfl, h1.cell (j := 11) rfl⟩
  have H9 : Hid (∀ W, Below w2.heap.size w2 W → Calls Try.prog 9 #[.agg #[.string p.name, .string p.evr, .string p.arch, .string p.vendor, .slice (a 0) (p.n 0) (c 0), .slice (a 1) (p.n 1) (c 1), .slice (a 2) (p.n 2) (c 2), .slice (a 3) (p.n 3) (c 3), .slice (a 4) (p.n 4) (c 4), .slice (a 5) (p.n 5) (c 5), .slice (a 6) (p.n 6) (c 6), .slice af nf cf]] W fun e w' => e = .returned (.int .i64 (pkgCheck p)) ∧ Below W.heap.size W w') := fun W hb =>
    check_c p a c af nf cf _ W ((HH.out.below HB2.out.1).below hb) (fun b hb' => Nat.lt_of_lt_of_le hb' (Nat.le_trans HB2.out.1.size hb.size))
  have H10 : Hid (∀ W, Below w2.heap.size w2 W → Calls Try.prog 10 #[.agg #[.string p.name, .string p.evr, .string p.arch, .string p.vendor, .slice (a 0) (p.n 0) (c 0), .slice (a 1) (p.n 1) (c 1), .slice (a 2) (p.n 2) (c 2), .slice (a 3) (p.n 3) (c 3), .slice (a 4) (p.n 4) (c 4), .slice (a 5) (p.n 5) (c 5), .slice (a 6) (p.n 6) (c 6), .slice af nf cf]] W fun e w' => e = .returned (.int .i64 (pkgCheck p)) ∧ Below W.heap.size W w') := fun W hb =>
    rcheck_c p a c af nf cf _ W ((HH.out.below HB2.out.1).below hb)
  have H11 : Hid (∀ W, Calls Try.prog 11 #[.agg #[.string p.name, .string p.evr, .string p.arch, .string p.vendor, .slice (a 0) (p.n 0) (c 0), .slice (a 1) (p.n 1) (c 1), .slice (a 2) (p.n 2) (c 2), .slice (a 3) (p.n 3) (c 3), .slice (a 4) (p.n 4) (c 4), .slice (a 5) (p.n 5) (c 5), .slice (a 6) (p.n 6) (c 6), .slice af nf cf]] W fun e w' => e = .returned (.string (textB p.name p.evr p.arch)) ∧ Below W.heap.size W w') := fun W => text_c p a c af nf cf W HSZ.out
  have H12 : Hid (∀ W, Calls Try.prog 12 #[.agg #[.string p.name, .string p.evr, .string p.arch, .string p.vendor, .slice (a 0) (p.n 0) (c 0), .slice (a 1) (p.n 1) (c 1), .slice (a 2) (p.n 2) (c 2), .slice (a 3) (p.n 3) (c 3), .slice (a 4) (p.n 4) (c 4), .slice (a 5) (p.n 5) (c 5), .slice (a 6) (p.n 6) (c 6), .slice af nf cf]] W fun e w' => e = .returned (.string (textB p.name p.evr p.arch)) ∧ Below W.heap.size W w') := fun W => rtext_c p a c af nf cf W HSZ.out
  generalize pkgCheck p = q at H9 H10
  generalize textB p.name p.evr p.arch = t at H11 H12
  have hbr0 : Below w2.heap.size w2 w2.drew := below_dr1 (Below.refl _ _)
  have p0 := (HS.out w2 (Below.refl _ _)).1
  have p1 := (HS.out w2 (Below.refl _ _)).2.1
  have p2 := (HS.out w2 (Below.refl _ _)).2.2.1
  have p3 := (HS.out w2 (Below.refl _ _)).2.2.2.1
  have p4 := (HS.out w2 (Below.refl _ _)).2.2.2.2.1
  have p5 := (HS.out w2 (Below.refl _ _)).2.2.2.2.2.1
  have p6 := (HS.out w2 (Below.refl _ _)).2.2.2.2.2.2.1
  have p7 := (HS.out w2 (Below.refl _ _)).2.2.2.2.2.2.2.1
  have p8 := (HS.out w2 (Below.refl _ _)).2.2.2.2.2.2.2.2.1
  have p9 := (HS.out w2 (Below.refl _ _)).2.2.2.2.2.2.2.2.2.1
  have p10 := (HS.out w2 (Below.refl _ _)).2.2.2.2.2.2.2.2.2.2.1
  have p11 := (HS.out w2 (Below.refl _ _)).2.2.2.2.2.2.2.2.2.2.2
  go_wp2_with fail
  go_region_held3 (fun W => W.cell? ⟨w.heap.size, 0, none⟩ = some (.string p.name) ∧ W.cell? ⟨w.heap.size, 1, none⟩ = some (.string p.evr) ∧ W.cell? ⟨w.heap.size, 2, none⟩ = some (.string p.arch) ∧ W.cell? ⟨w.heap.size, 3, none⟩ = some (.string p.vendor) ∧ W.cell? ⟨w.heap.size, 4, none⟩ = some (.slice (a 0) (p.n 0) (c 0)) ∧ W.cell? ⟨w.heap.size, 5, none⟩ = some (.slice (a 1) (p.n 1) (c 1)) ∧ W.cell? ⟨w.heap.size, 6, none⟩ = some (.slice (a 2) (p.n 2) (c 2)) ∧ W.cell? ⟨w.heap.size, 7, none⟩ = some (.slice (a 3) (p.n 3) (c 3)) ∧ W.cell? ⟨w.heap.size, 8, none⟩ = some (.slice (a 4) (p.n 4) (c 4)) ∧ W.cell? ⟨w.heap.size, 9, none⟩ = some (.slice (a 5) (p.n 5) (c 5)) ∧ W.cell? ⟨w.heap.size, 10, none⟩ = some (.slice (a 6) (p.n 6) (c 6)) ∧ W.cell? ⟨w.heap.size, 11, none⟩ = some (.slice af nf cf))
    (exact HS.out _ (by assumption))
    (first
      | (go_at_call 9; refine (H9.out _ (by assumption)).mono ?_; rintro e wa ⟨rfl, hba⟩; have hbb := below_tr (show Below w2.heap.size w2 _ by assumption) hba; clear hba)
      | (go_at_call 10; refine (H10.out _ (by assumption)).mono ?_; rintro e wa ⟨rfl, hba⟩; have hbb := below_tr (show Below w2.heap.size w2 _ by assumption) hba; clear hba)
      | (go_at_call 11; refine (H11.out _).mono ?_; rintro e wa ⟨rfl, hba⟩; have hbb := below_tr (show Below w2.heap.size w2 _ by assumption) hba; clear hba)
      | (go_at_call 12; refine (H12.out _).mono ?_; rintro e wa ⟨rfl, hba⟩; have hbb := below_tr (show Below w2.heap.size w2 _ by assumption) hba; clear hba))
  all_goals
    go_wp2_with fail
    go_ret
    exact ⟨rfl, below_tr HB2.out.1 (by assumption)⟩
end Go.Proofs.Ytgeimldijagkkaa
