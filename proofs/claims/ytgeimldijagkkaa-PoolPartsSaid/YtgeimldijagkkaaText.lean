/-
  A package's text: the contracts. Helper text; the conditions are those typed.
-/
import Derived.Test.YtgeimldijagkkaaChkE
namespace Go.Proofs.Ytgeimldijagkkaa
set_option linter.unusedVariables false
set_option linter.unusedSimpArgs false
open Go.RowKit Go.Maps

def textB (nm ev ar : ByteArray) : ByteArray := nm ++ ⟨#[45]⟩ ++ ev ++ ⟨#[46]⟩ ++ ar

set_option maxHeartbeats 4000000 in
set_option maxRecDepth 100000 in
theorem rtext_c (p : PkgT) (a : Fin 7 → Option Addr) (c : Fin 7 → Nat) (af : Option Addr) (nf cf : Nat) (w : World) (hsz : p.name.size + p.evr.size + p.arch.size + 2 ≤ 9223372036854775807) :
    Calls Try.prog 12 #[.agg #[.string p.name, .string p.evr, .string p.arch, .string p.vendor, .slice (a 0) (p.n 0) (c 0), .slice (a 1) (p.n 1) (c 1), .slice (a 2) (p.n 2) (c 2), .slice (a 3) (p.n 3) (c 3), .slice (a 4) (p.n 4) (c 4), .slice (a 5) (p.n 5) (c 5), .slice (a 6) (p.n 6) (c 6), .slice af nf cf]] w fun e w' => e = .returned (.string (textB p.name p.evr p.arch)) ∧ Below w.heap.size w w' := by
  obtain ⟨w1, e1⟩ : ∃ w1, w.alloc (.cells #[.string p.name, .string p.evr, .string p.arch, .string p.vendor, .slice (a 0) (p.n 0) (c 0), .slice (a 1) (p.n 1) (c 1), .slice (a 2) (p.n 2) (c 2), .slice (a 3) (p.n 3) (c 3), .slice (a 4) (p.n 4) (c 4), .slice (a 5) (p.n 5) (c 5), .slice (a 6) (p.n 6) (c 6), .slice af nf cf] 26) = w1 := ⟨_, rfl⟩
  have HB1 : Hid (Below w.heap.size w w1 ∧ BoxN w1 w.heap.size (pkgCells p.name p.evr p.arch p.vendor (fun i => .slice (a i) (p.n i) (c i)) (.slice af nf cf)) 26) := by
    rw [← e1]
    exact ⟨below1 _ _, boxN_alloc _ _ _⟩
  have p0 := HB1.out.2.cell (j := 0) rfl
  have p1 := HB1.out.2.cell (j := 1) rfl
  have p2 := HB1.out.2.cell (j := 2) rfl
  have p3 := HB1.out.2.cell (j := 3) rfl
  have p4 := HB1.out.2.cell (j := 4) rfl
  have p5 := HB1.out.2.cell (j := 5) rfl
  have p6 := HB1.out.2.cell (j := 6) rfl
  have p7 := HB1.out.2.cell (j := 7) rfl
  have p8 := HB1.out.2.cell (j := 8) rfl
  have p9 := HB1.out.2.cell (j := 9) rfl
  have p10 := HB1.out.2.cell (j := 10) rfl
  have p11 := HB1.out.2.cell (j := 11) rfl
  go_enter Try.func12, Try.ntmps12
  go_wp2_with fail
  go_ret
  exact ⟨rfl, HB1.out.1⟩

set_option maxHeartbeats 4000000 in
set_option maxRecDepth 100000 in
theorem text_c (p : PkgT) (a : Fin 7 → Option Addr) (c : Fin 7 → Nat) (af : Option Addr) (nf cf : Nat) (w : World) (hsz : p.name.size + p.evr.size + p.arch.size + 2 ≤ 9223372036854775807) :
    Calls Try.prog 11 #[.agg #[.string p.name, .string p.evr, .string p.arch, .string p.vendor, .slice (a 0) (p.n 0) (c 0), .slice (a 1) (p.n 1) (c 1), .slice (a 2) (p.n 2) (c 2), .slice (a 3) (p.n 3) (c 3), .slice (a 4) (p.n 4) (c 4), .slice (a 5) (p.n 5) (c 5), .slice (a 6) (p.n 6) (c 6), .slice af nf cf]] w fun e w' => e = .returned (.string (textB p.name p.evr p.arch)) ∧ Below w.heap.size w w' := by
  obtain ⟨w1, e1⟩ : ∃ w1, w.alloc (.cells #[.string p.name, .string p.evr, .string p.arch, .string p.vendor, .slice (a 0) (p.n 0) (c 0), .slice (a 1) (p.n 1) (c 1), .slice (a 2) (p.n 2) (c 2), .slice (a 3) (p.n 3) (c 3), .slice (a 4) (p.n 4) (c 4), .slice (a 5) (p.n 5) (c 5), .slice (a 6) (p.n 6) (c 6), .slice af nf cf] 26) = w1 := ⟨_, rfl⟩
  have HB1 : Hid (Below w.heap.size w w1 ∧ BoxN w1 w.heap.size (pkgCells p.name p.evr p.arch p.vendor (fun i => .slice (a i) (p.n i) (c i)) (.slice af nf cf)) 26) := by
    rw [← e1]
    exact ⟨below1 _ _, boxN_alloc _ _ _⟩
  have p0 := HB1.out.2.cell (j := 0) rfl
  have p1 := HB1.out.2.cell (j := 1) rfl
  have p2 := HB1.out.2.cell (j := 2) rfl
  have p3 := HB1.out.2.cell (j := 3) rfl
  have p4 := HB1.out.2.cell (j := 4) rfl
  have p5 := HB1.out.2.cell (j := 5) rfl
  have p6 := HB1.out.2.cell (j := 6) rfl
  have p7 := HB1.out.2.cell (j := 7) rfl
  have p8 := HB1.out.2.cell (j := 8) rfl
  have p9 := HB1.out.2.cell (j := 9) rfl
  have p10 := HB1.out.2.cell (j := 10) rfl
  have p11 := HB1.out.2.cell (j := 11) rfl
  go_enter Try.func11, Try.ntmps11
  go_wp2_with fail
  go_ret
  exact ⟨rfl, below_tr HB1.out.1 (below1 _ _)⟩
end Go.Proofs.Ytgeimldijagkkaa
