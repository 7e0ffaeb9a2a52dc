/-
  A pool is asked for a package: it is told in memory of its own. Helper text; the conditions are those typed.
-/
import Derived.Test.YtbdankpkdhhlmaaGreatCopyF
import Derived.Test.YtbdankpkdhhlmaaGreatPkgA
namespace Go.Proofs.YtbdankpkdhhlmaaGreat
set_option linter.unusedVariables false
set_option linter.unusedSimpArgs false
open Go.RowKit Go.Maps

set_option maxHeartbeats 8000000 in
set_option maxRecDepth 100000 in
theorem packageF_c {w : World} {B : Nat} {role : Nat → Role} {P M : Nat} {vr va : Value} {lv : ByteArray → Value} {kd : Int} {rs : List RepoH} {ks : List KeptT} {ns : List ByteArray} (h : PoolIn w B role P M vr va lv kd rs ks ns) (hks : ks.length ≤ 200) {i : Nat} (hi : i < ks.length) {pk : PkgT} (hpk : ks[i].pkg = pk) {at_ : Nat} (hat : ks[i].at_ = at_) :
    Calls Tryz.prog 22 #[.pointer (some ⟨P, 0, none⟩), .int .i64 (i : Int)] w fun e w' => (∃ (a' : Fin 7 → Option Addr) (c' : Fin 7 → Nat) (af' : Option Addr) (nf cf' : Nat), e = .returned (.tuple #[.agg #[.string pk.name, .string pk.evr, .string pk.arch, .string pk.vendor, .slice (a' 0) (pk.n 0) (c' 0), .slice (a' 1) (pk.n 1) (c' 1), .slice (a' 2) (pk.n 2) (c' 2), .slice (a' 3) (pk.n 3) (c' 3), .slice (a' 4) (pk.n 4) (c' 4), .slice (a' 5) (pk.n 5) (c' 5), .slice (a' 6) (pk.n 6) (c' 6), .slice af' nf cf'], .int .i64 (at_ : Int), .int .i64 0]) ∧ PkgV w' (New w.heap.size w') pk (fun i => .slice (a' i) (pk.n i) (c' i)) (.slice af' nf cf')) ∧ Below w.heap.size w w' := by
  obtain ⟨A, cap, a, c, af, nf, cf, hva, hAlt, hAr, hpv, hcells⟩ := kept_at h hi
  subst hva
  rw [hpk, hat] at hcells
  rw [hpk] at hpv
  obtain ⟨n, hn⟩ : ∃ n, ks.length = n := ⟨_, rfl⟩
  have hbox := h.box
  rw [hn] at hbox
  have hi0 : (0 : Int) ≤ (i : Int) := by omega
  have hi1 : (i : Int) < (n : Int) := by omega
  have hi2 : ¬ (i : Int) < 0 := by omega
  have hi3 : ¬ (n : Int) ≤ (i : Int) := by omega
  have hn200 : n ≤ 200 := by omega
  have hne : P ≠ A := fun e => by have := h.rP; rw [e, hAr] at this; cases this
  have hPlt := hbox.lt
  clear h hpk hat hn hi hAr
  obtain ⟨w1, e1⟩ : ∃ w1, w.alloc (.cells #[.string ⟨#[]⟩, .string ⟨#[]⟩, .string ⟨#[]⟩, .string ⟨#[]⟩, .slice none 0 0, .slice none 0 0, .slice none 0 0, .slice none 0 0, .slice none 0 0, .slice none 0 0, .slice none 0 0, .slice none 0 0] 45) = w1 := ⟨_, rfl⟩
  have HB1 : Hid (Below w.heap.size w w1 ∧ BoxN w1 w.heap.size (#[.string ⟨#[]⟩, .string ⟨#[]⟩, .string ⟨#[]⟩, .string ⟨#[]⟩, .slice none 0 0, .slice none 0 0, .slice none 0 0, .slice none 0 0, .slice none 0 0, .slice none 0 0, .slice none 0 0, .slice none 0 0]).toList 45) := by
    rw [← e1]
    exact ⟨below1 _ _, boxN_alloc _ _ _⟩
  have HS : Hid (∀ W : World, W.heap[P]? = w1.heap[P]? → W.heap[A]? = w1.heap[A]? → W.cell? ⟨P, 2, none⟩ = some (.slice (some ⟨A, 0, none⟩) n cap) ∧ W.cell? ⟨A, i * 13, none⟩ = some (.string pk.name) ∧ W.cell? ⟨A, i * 13 + 1, none⟩ = some (.string pk.evr) ∧ W.cell? ⟨A, i * 13 + 2, none⟩ = some (.string pk.arch) ∧ W.cell? ⟨A, i * 13 + 3, none⟩ = some (.string pk.vendor) ∧ W.cell? ⟨A, i * 13 + 4, none⟩ = some (.slice (a 0) (pk.n 0) (c 0)) ∧ W.cell? ⟨A, i * 13 + 5, none⟩ = some (.slice (a 1) (pk.n 1) (c 1)) ∧ W.cell? ⟨A, i * 13 + 6, none⟩ = some (.slice (a 2) (pk.n 2) (c 2)) ∧ W.cell? ⟨A, i * 13 + 7, none⟩ = some (.slice (a 3) (pk.n 3) (c 3)) ∧ W.cell? ⟨A, i * 13 + 8, none⟩ = some (.slice (a 4) (pk.n 4) (c 4)) ∧ W.cell? ⟨A, i * 13 + 9, none⟩ = some (.slice (a 5) (pk.n 5) (c 5)) ∧ W.cell? ⟨A, i * 13 + 10, none⟩ = some (.slice (a 6) (pk.n 6) (c 6)) ∧ W.cell? ⟨A, i * 13 + 11, none⟩ = some (.slice af nf cf) ∧ W.cell? ⟨A, i * 13 + 12, none⟩ = some (.int .i64 (at_ : Int))) := fun W h1 h2 => by
    have hP : BoxN W P _ 98 := hbox.to (h1.trans (HB1.out.1.block P hPlt))
    have hA : CellsAt W A (i * 13) _ := hcells.keep (h2.trans (HB1.out.1.block A hAlt))
    exact ⟨hP.cell (j := 2) rfl, hA 0 _ rfl, hA 1 _ rfl, hA 2 _ rfl, hA 3 _ rfl, hA 4 _ rfl, hA 5 _ rfl, hA 6 _ rfl, hA 7 _ rfl, hA 8 _ rfl, hA 9 _ rfl, hA 10 _ rfl, hA 11 _ rfl, hA 12 _ rfl⟩
  have c2 : w1.cell? ⟨P, 2, none⟩ = some _ := (HS.out w1 rfl rfl).1
  have HC : Hid (∀ W, Below w1.heap.size w1 W → Calls Tryz.prog 47 #[.agg #[.string pk.name, .string pk.evr, .string pk.arch, .string pk.vendor, .slice (a 0) (pk.n 0) (c 0), .slice (a 1) (pk.n 1) (c 1), .slice (a 2) (pk.n 2) (c 2), .slice (a 3) (pk.n 3) (c 3), .slice (a 4) (pk.n 4) (c 4), .slice (a 5) (pk.n 5) (c 5), .slice (a 6) (pk.n 6) (c 6), .slice af nf cf]] W fun e w' => (∃ (a' : Fin 7 → Option Addr) (c' : Fin 7 → Nat) (af' : Option Addr) (cf' : Nat), e = .returned (.agg #[.string pk.name, .string pk.evr, .string pk.arch, .string pk.vendor, .slice (a' 0) (pk.n 0) (c' 0), .slice (a' 1) (pk.n 1) (c' 1), .slice (a' 2) (pk.n 2) (c' 2), .slice (a' 3) (pk.n 3) (c' 3), .slice (a' 4) (pk.n 4) (c' 4), .slice (a' 5) (pk.n 5) (c' 5), .slice (a' 6) (pk.n 6) (c' 6), .slice af' nf cf']) ∧ PkgV w' (New W.heap.size w') pk (fun i => .slice (a' i) (pk.n i) (c' i)) (.slice af' nf cf')) ∧ Below W.heap.size W w') := fun W hb => copiedF_c pk a c af nf cf _ W ((hpv.below HB1.out.1).below hb)
  have HR : Hid (∀ W, Below w1.heap.size w1 W → BoxN W w.heap.size (#[.string ⟨#[]⟩, .string ⟨#[]⟩, .string ⟨#[]⟩, .string ⟨#[]⟩, .slice none 0 0, .slice none 0 0, .slice none 0 0, .slice none 0 0, .slice none 0 0, .slice none 0 0, .slice none 0 0, .slice none 0 0]).toList 45) := fun W hb => HB1.out.2.below hb
  have HBLT : Hid (P < w1.heap.size ∧ A < w1.heap.size ∧ P ≠ w.heap.size ∧ A ≠ w.heap.size) := ⟨Nat.lt_of_lt_of_le hPlt HB1.out.1.size, Nat.lt_of_lt_of_le hAlt HB1.out.1.size, by omega, by omega⟩
  replace hcells := Lib.hid hcells
  replace hbox := Lib.hid hbox
  replace hpv := Lib.hid hpv
  clear hPlt hAlt
  go_enter Tryz.func22, Tryz.ntmps22
  go_wp2_with fail
  go_region_held3 (fun W => W.cell? ⟨P, 2, none⟩ = some (.slice (some ⟨A, 0, none⟩) n cap) ∧ W.cell? ⟨A, i * 13, none⟩ = some (.string pk.name) ∧ W.cell? ⟨A, i * 13 + 1, none⟩ = some (.string pk.evr) ∧ W.cell? ⟨A, i * 13 + 2, none⟩ = some (.string pk.arch) ∧ W.cell? ⟨A, i * 13 + 3, none⟩ = some (.string pk.vendor) ∧ W.cell? ⟨A, i * 13 + 4, none⟩ = some (.slice (a 0) (pk.n 0) (c 0)) ∧ W.cell? ⟨A, i * 13 + 5, none⟩ = some (.slice (a 1) (pk.n 1) (c 1)) ∧ W.cell? ⟨A, i * 13 + 6, none⟩ = some (.slice (a 2) (pk.n 2) (c 2)) ∧ W.cell? ⟨A, i * 13 + 7, none⟩ = some (.slice (a 3) (pk.n 3) (c 3)) ∧ W.cell? ⟨A, i * 13 + 8, none⟩ = some (.slice (a 4) (pk.n 4) (c 4)) ∧ W.cell? ⟨A, i * 13 + 9, none⟩ = some (.slice (a 5) (pk.n 5) (c 5)) ∧ W.cell? ⟨A, i * 13 + 10, none⟩ = some (.slice (a 6) (pk.n 6) (c 6)) ∧ W.cell? ⟨A, i * 13 + 11, none⟩ = some (.slice af nf cf) ∧ W.cell? ⟨A, i * 13 + 12, none⟩ = some (.int .i64 (at_ : Int)))
    (first | exact HS.out _ rfl rfl | exact HS.out _ (hbr.block P HBLT.out.1) (hbr.block A HBLT.out.2.1) | exact HS.out _ (by rw [← e8]; exact (fill12_other HBLT.out.2.2.1 _ _ _ _ _ _ _ _ _ _ _ _).trans (hbr.block P HBLT.out.1)) (by rw [← e8]; exact (fill12_other HBLT.out.2.2.2 _ _ _ _ _ _ _ _ _ _ _ _).trans (hbr.block A HBLT.out.2.1)))
    ((go_at_call 47; refine (HC.out _ (below_dr1 (Below.refl _ _))).mono ?_; rintro e w2 ⟨⟨a', c', af', cf', rfl, hv2⟩, hb2⟩; have hbr : Below w1.heap.size w1 w2 := below_tr (below_dr1 (Below.refl _ _)) hb2; replace hv2 := Lib.hid hv2; have z0 := (HR.out _ hbr).cell (j := 0) rfl; have y0 := (HR.out _ hbr).frozen 0; have z1 := (HR.out _ hbr).cell (j := 1) rfl; have y1 := (HR.out _ hbr).frozen 1; have z2 := (HR.out _ hbr).cell (j := 2) rfl; have y2 := (HR.out _ hbr).frozen 2; have z3 := (HR.out _ hbr).cell (j := 3) rfl; have y3 := (HR.out _ hbr).frozen 3; have z4 := (HR.out _ hbr).cell (j := 4) rfl; have y4 := (HR.out _ hbr).frozen 4; have z5 := (HR.out _ hbr).cell (j := 5) rfl; have y5 := (HR.out _ hbr).frozen 5; have z6 := (HR.out _ hbr).cell (j := 6) rfl; have y6 := (HR.out _ hbr).frozen 6; have z7 := (HR.out _ hbr).cell (j := 7) rfl; have y7 := (HR.out _ hbr).frozen 7; have z8 := (HR.out _ hbr).cell (j := 8) rfl; have y8 := (HR.out _ hbr).frozen 8; have z9 := (HR.out _ hbr).cell (j := 9) rfl; have y9 := (HR.out _ hbr).frozen 9; have z10 := (HR.out _ hbr).cell (j := 10) rfl; have y10 := (HR.out _ hbr).frozen 10; have z11 := (HR.out _ hbr).cell (j := 11) rfl; have y11 := (HR.out _ hbr).frozen 11; obtain ⟨w8, e8⟩ : ∃ w8, ((((((((((((w2.setCell ⟨w.heap.size, 0, none⟩ (.string pk.name)).setCell ⟨w.heap.size, 1, none⟩ (.string pk.evr)).setCell ⟨w.heap.size, 2, none⟩ (.string pk.arch)).setCell ⟨w.heap.size, 3, none⟩ (.string pk.vendor)).setCell ⟨w.heap.size, 4, none⟩ (.slice (a' 0) (pk.n 0) (c' 0))).setCell ⟨w.heap.size, 5, none⟩ (.slice (a' 1) (pk.n 1) (c' 1))).setCell ⟨w.heap.size, 6, none⟩ (.slice (a' 2) (pk.n 2) (c' 2))).setCell ⟨w.heap.size, 7, none⟩ (.slice (a' 3) (pk.n 3) (c' 3))).setCell ⟨w.heap.size, 8, none⟩ (.slice (a' 4) (pk.n 4) (c' 4))).setCell ⟨w.heap.size, 9, none⟩ (.slice (a' 5) (pk.n 5) (c' 5))).setCell ⟨w.heap.size, 10, none⟩ (.slice (a' 6) (pk.n 6) (c' 6))).setCell ⟨w.heap.size, 11, none⟩ (.slice af' nf cf')) = w8 := ⟨_, rfl⟩))
  all_goals
    have hBW : Hid (Below w.heap.size w w8) := by
      rw [← e8]
      exact (below_tr HB1.out.1 hbr).trans (fill12_below (Nat.le_refl _) _ _ _ _ _ _ _ _ _ _ _ _)
    have hRW : Hid (BoxN w8 w.heap.size [.string pk.name, .string pk.evr, .string pk.arch, .string pk.vendor, .slice (a' 0) (pk.n 0) (c' 0), .slice (a' 1) (pk.n 1) (c' 1), .slice (a' 2) (pk.n 2) (c' 2), .slice (a' 3) (pk.n 3) (c' 3), .slice (a' 4) (pk.n 4) (c' 4), .slice (a' 5) (pk.n 5) (c' 5), .slice (a' 6) (pk.n 6) (c' 6), .slice af' nf cf'] 45) := by
      rw [← e8]
      exact fill12 (HR.out _ hbr) _ _ _ _ _ _ _ _ _ _ _ _
    have hPW : Hid (PkgV w8 (New w.heap.size w8) pk (fun i => .slice (a' i) (pk.n i) (c' i)) (.slice af' nf cf')) := by
      refine hv2.out.keep (fun b hb => ?_) (fun b hb hl => ?_)
      · have h1 := hb.1
        have h2 := HB1.out.1.size
        have h4 := HB1.out.2.lt
        have h3 : w1.drew.heap.size = w1.heap.size := rfl
        refine ⟨by omega, hb.2.keep ?_⟩
        rw [← e8]
        exact fill12_other (by omega) _ _ _ _ _ _ _ _ _ _ _ _
      · have h1 := hb.1
        have h2 := HB1.out.2.lt
        have h3 : w1.drew.heap.size = w1.heap.size := rfl
        rw [← e8]
        exact fill12_other (by omega) _ _ _ _ _ _ _ _ _ _ _ _
    clear z0 y0 z1 y1 z2 y2 z3 y3 z4 y4 z5 y5 z6 y6 z7 y7 z8 y8 z9 y9 z10 y10 z11 y11 hv2 hb2 hbr e8
    have x0 := hRW.out.cell (j := 0) rfl
    have x1 := hRW.out.cell (j := 1) rfl
    have x2 := hRW.out.cell (j := 2) rfl
    have x3 := hRW.out.cell (j := 3) rfl
    have x4 := hRW.out.cell (j := 4) rfl
    have x5 := hRW.out.cell (j := 5) rfl
    have x6 := hRW.out.cell (j := 6) rfl
    have x7 := hRW.out.cell (j := 7) rfl
    have x8 := hRW.out.cell (j := 8) rfl
    have x9 := hRW.out.cell (j := 9) rfl
    have x10 := hRW.out.cell (j := 10) rfl
    have x11 := hRW.out.cell (j := 11) rfl
    go_wp2_with fail
    refine bodyPost_ret (v := .tuple #[.agg #[.string pk.name, .string pk.evr, .string pk.arch, .string pk.vendor, .slice (a' 0) (pk.n 0) (c' 0), .slice (a' 1) (pk.n 1) (c' 1), .slice (a' 2) (pk.n 2) (c' 2), .slice (a' 3) (pk.n 3) (c' 3), .slice (a' 4) (pk.n 4) (c' 4), .slice (a' 5) (pk.n 5) (c' 5), .slice (a' 6) (pk.n 6) (c' 6), .slice af' nf cf'], .int .i64 (at_ : Int), .int .i64 0]) (by simp [results, Tryz.results22, go_sem, x0, x1, x2, x3, x4, x5, x6, x7, x8, x9, x10, x11]) rfl ?_
    exact ⟨⟨a', c', af', nf, cf', rfl, hPW.out⟩, hBW.out⟩
end Go.Proofs.YtbdankpkdhhlmaaGreat
