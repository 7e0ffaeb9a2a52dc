/-
  A package's dependencies may be: the walk. Helper text; the conditions are those typed.
-/
import Derived.Test.YtjcefgjgjhdbpaaDoorPoolLaw
namespace Go.Proofs.YtjcefgjgjhdbpaaDoor
set_option linter.unusedVariables false
set_option linter.unusedSimpArgs false
open Go.RowKit Go.Maps

set_option maxHeartbeats 4000000 in
set_option maxRecDepth 100000 in
/-- pool.deps. -/
theorem deps_c (p : PkgT) (a : Fin 7 → Option Addr) (c : Fin 7 → Nat) (af : Option Addr) (nf cf : Nat) (S : Nat → Prop) (w : World) (h : PkgV w S p (fun i => .slice (a i) (p.n i) (c i)) (.slice af nf cf)) (hS : ∀ b, S b → b < w.heap.size) :
    Calls Tryd.prog 51 #[.agg #[.string p.name, .string p.evr, .string p.arch, .string p.vendor, .slice (a 0) (p.n 0) (c 0), .slice (a 1) (p.n 1) (c 1), .slice (a 2) (p.n 2) (c 2), .slice (a 3) (p.n 3) (c 3), .slice (a 4) (p.n 4) (c 4), .slice (a 5) (p.n 5) (c 5), .slice (a 6) (p.n 6) (c 6), .slice af nf cf]] w fun e w' => e = .returned (.bool (depsB p)) ∧ Below w.heap.size w w' := by
  obtain ⟨w1, e1⟩ : ∃ w1, w.alloc (.cells #[.string p.name, .string p.evr, .string p.arch, .string p.vendor, .slice (a 0) (p.n 0) (c 0), .slice (a 1) (p.n 1) (c 1), .slice (a 2) (p.n 2) (c 2), .slice (a 3) (p.n 3) (c 3), .slice (a 4) (p.n 4) (c 4), .slice (a 5) (p.n 5) (c 5), .slice (a 6) (p.n 6) (c 6), .slice af nf cf] 34) = w1 := ⟨_, rfl⟩
  have HB1 : Hid (Below w.heap.size w w1 ∧ BoxN w1 w.heap.size (pkgCells p.name p.evr p.arch p.vendor (fun i => .slice (a i) (p.n i) (c i)) (.slice af nf cf)) 34) := by
    rw [← e1]
    exact ⟨below1 _ _, boxN_alloc _ _ _⟩
  obtain ⟨RES, hRES⟩ : ∃ RES, depsB p = RES := ⟨_, rfl⟩
  have HNO : Hid (∀ i : Fin 7, okList p i = false → RES = false) := fun i hi => by rw [← hRES]; exact depsB_no i hi
  have HYES : Hid ((∀ j (hj : j < 7), okList p ⟨j, hj⟩ = true) → RES = true) := fun h => by rw [← hRES]; exact depsB_yes h
  rw [hRES]
  clear hRES
  replace h := Lib.hid h
  replace hS := Lib.hid hS
  go_enter Tryd.func51, Tryd.ntmps51
  go_wp2_with fail
  refine (lists_c w.heap.size w1).mono ?_
  rintro e w2 ⟨rfl, hb2, hl2⟩
  have HB2 : Hid (Below w.heap.size w w2 ∧ BoxN w2 w.heap.size (pkgCells p.name p.evr p.arch p.vendor (fun i => .slice (a i) (p.n i) (c i)) (.slice af nf cf)) 34 ∧ BoxN w2 w1.heap.size (placesL w.heap.size) 49) := ⟨below_tr HB1.out.1 hb2, HB1.out.2.below hb2, hl2⟩
  clear hb2 hl2 e1 HB1
  generalize w1.heap.size = L at HB2
  clear w1
  go_wp2_with fail
  go_loopw [10] (fun vi wr => ∃ i : Nat, vi = .int .i64 i ∧ i ≤ 7 ∧ Hid (∀ j (hj : j < 7), j < i → okList p ⟨j, hj⟩ = true) ∧ Hid (Below w.heap.size w wr ∧ BoxN wr w.heap.size (pkgCells p.name p.evr p.arch p.vendor (fun i => .slice (a i) (p.n i) (c i)) (.slice af nf cf)) 34 ∧ BoxN wr L (placesL w.heap.size) 49)) (fun vi _ => 7 - (intOf vi).toNat)
  case atStart => exact ⟨0, rfl, by omega, fun j h h0 => absurd h0 (Nat.not_lt_zero _), HB2.out⟩
  case round =>
    obtain ⟨i, rfl, hin, HG, HT⟩ := hrel
    clear HB2
    by_cases hlt : i < 7
    · have hi1 : (i : Int) < 7 := by omega
      have hi1 : ¬ (7 : Int) ≤ i := by omega
      have l1 := HT.out.2.2.cell (lists_at _ hlt)
      obtain ⟨n, args, ai, ci, hv, HIN, HL, HBad, HGood⟩ := list_ways h.out ⟨i, hlt⟩
      have l2 : wr.cell? ⟨w.heap.size, 4 + i, none⟩ = some (.slice ai n ci) := by rw [← hv]; exact HT.out.2.1.cell (pkg_at _ _ _ _ _ _ hlt)
      have hNO := HNO.out ⟨i, hlt⟩
      have hOK : okList p ⟨i, hlt⟩ = true → ∀ j (h : j < 7), j < i + 1 → okList p ⟨j, h⟩ = true := by
        intro h0 j h hj
        rcases Nat.lt_succ_iff_lt_or_eq.1 hj with h1 | h1
        · exact HG.out j h h1
        · subst h1; exact h0
      replace hNO := Lib.hid hNO
      replace hOK := Lib.hid hOK
      generalize okList p ⟨i, hlt⟩ = okl at HL HBad HGood hNO hOK
      replace HL := Lib.hid HL
      replace HBad := Lib.hid HBad
      replace HGood := Lib.hid HGood
      replace HIN := Lib.hid HIN
      clear hv
      by_cases h16 : 16 < (n : Int)
      · go_wp2_with fail
        go_ret
        exact ⟨by rw [hNO.out (HL.out h16)]; rfl, HT.out.1⟩
      · go_wp2_with fail
        go_loopw [24] (fun vj wj => ∃ j : Nat, vj = .int .i64 j ∧ j ≤ n ∧ Hid (∀ k (hk : k < n), k < j → depOk i (args ⟨k, hk⟩) = true) ∧ Hid (Below w.heap.size w wj ∧ BoxN wj w.heap.size (pkgCells p.name p.evr p.arch p.vendor (fun i => .slice (a i) (p.n i) (c i)) (.slice af nf cf)) 34 ∧ BoxN wj L (placesL w.heap.size) 49)) (fun vj _ => n - (intOf vj).toNat)
        case atStart => exact ⟨0, rfl, by omega, fun j h h0 => absurd h0 (Nat.not_lt_zero _), HT.out⟩
        case round =>
          obtain ⟨j, rfl, hjn, HJ, HTJ⟩ := hrel
          clear l1 l2
          by_cases hjlt : j < n
          · have hj1 : (j : Int) < (n : Int) := by omega
            obtain ⟨b', off, rfl, hs, hi⟩ := HIN.out (by omega)
            obtain ⟨k', nm', op', ev', a', n', c', args', he⟩ := elem_at (hi ⟨j, hjlt⟩)
            have hBad := HBad.out ⟨j, hjlt⟩
            have hW := way_of i (args ⟨j, hjlt⟩)
            have hJ1 : depOk i (args ⟨j, hjlt⟩) = true → ∀ k (hk : k < n), k < j + 1 → depOk i (args ⟨k, hk⟩) = true := by
              intro h0 k h hk
              rcases Nat.lt_succ_iff_lt_or_eq.1 hk with h1 | h1
              · exact HJ.out k h h1
              · subst h1; exact h0
            have hC := depCheck_c (args ⟨j, hjlt⟩)
            have hkd : (args ⟨j, hjlt⟩).kind = k' := by rw [he.is_]; rfl
            have hop : (args ⟨j, hjlt⟩).op = op' := by rw [he.is_]; rfl
            rw [hkd, hop] at hW
            clear hkd hop
            generalize args ⟨j, hjlt⟩ = d' at hBad hW hJ1 hC he
            generalize depOk i d' = x at hBad hW hJ1
            generalize depCheck d' = q at hW hC
            replace he := Lib.hid (he.below HTJ.out.1)
            have HC : Hid (∀ w3, Below wr.heap.size wr w3 → Calls Tryd.prog 65 #[.agg #[.int .i64 k', .string nm', .int .i64 op', .string ev', .slice a' n' c']] w3 fun e w' => e = .returned (.int .i64 q) ∧ Below w3.heap.size w3 w') := fun w3 hb => hC _ S w3 (he.out.dep.below hb) fun b hb' => Nat.lt_of_lt_of_le (hS.out b hb') (Nat.le_trans HTJ.out.1.size hb.size)
            replace hBad := Lib.hid hBad
            replace hJ1 := Lib.hid hJ1
            clear hC hi
            have q0 := he.out.c0
            have q1 := he.out.c1
            have q2 := he.out.c2
            have q3 := he.out.c3
            have q4 := he.out.c4
            obtain ⟨w3, e3⟩ : ∃ w3, wr.alloc (.cells #[.int .i64 k', .string nm', .int .i64 op', .string ev', .slice a' n' c'] 63) = w3 := ⟨_, rfl⟩
            have HB3 : Hid (Below wr.heap.size wr w3 ∧ Box5 w3 wr.heap.size k' nm' op' ev' (.slice a' n' c')) := by
              rw [← e3]
              exact ⟨below1 _ _, .of (alloc_at _ _)⟩
            have r0 := HB3.out.2.c0
            have r1 := HB3.out.2.c1
            have r2 := HB3.out.2.c2
            have r3 := HB3.out.2.c3
            have r4 := HB3.out.2.c4
            unfold Way at hW
            rcases hW with ⟨f1, f2, f3, f4, hW⟩ | ⟨f1, f2, f3, f4, hW⟩ | ⟨f1, f2, f3, f4, hW⟩
            · rcases hW with ⟨g1, hx⟩ | ⟨g1, hx⟩
              · replace hx := Lib.hid hx
                go_wp2_with fail
                refine (HC.out w3 HB3.out.1).mono ?_
                rintro e w4 ⟨rfl, hb4⟩
                have HB4 : Hid (Below w3.heap.size w3 w4 ∧ Box5 w4 wr.heap.size k' nm' op' ev' (.slice a' n' c')) := ⟨hb4, HB3.out.2.below hb4⟩
                clear hb4 r0 r1 r2 r3 r4
                have r0 := HB4.out.2.c0
                have r2 := HB4.out.2.c2
                go_wp2_with fail
                go_ret
                exact ⟨by rw [hNO.out (hBad.out hx.out)]; rfl, below_tr (below_tr HTJ.out.1 HB3.out.1) HB4.out.1⟩
              · replace hx := Lib.hid hx
                go_wp2_with fail
                refine (HC.out w3 HB3.out.1).mono ?_
                rintro e w4 ⟨rfl, hb4⟩
                have HB4 : Hid (Below w3.heap.size w3 w4 ∧ Box5 w4 wr.heap.size k' nm' op' ev' (.slice a' n' c')) := ⟨hb4, HB3.out.2.below hb4⟩
                clear hb4 r0 r1 r2 r3 r4
                have r0 := HB4.out.2.c0
                have r2 := HB4.out.2.c2
                go_wp2_with fail
                go_roundw
                case rel => exact ⟨j + 1, by go_num, by omega, hJ1.out hx.out, below_tr (below_tr HTJ.out.1 HB3.out.1) HB4.out.1, (HTJ.out.2.1.below HB3.out.1).below HB4.out.1, (HTJ.out.2.2.below HB3.out.1).below HB4.out.1⟩
                case measure => simp [intOf]; omega
            · rcases hW with ⟨g1, g2, hx⟩ | ⟨g1, g2, g3, hx⟩ | ⟨g1, g2, g3, hx⟩
              · replace hx := Lib.hid hx
                go_wp2_with fail
                go_ret
                exact ⟨by rw [hNO.out (hBad.out hx.out)]; rfl, below_tr HTJ.out.1 HB3.out.1⟩
              · replace hx := Lib.hid hx
                go_wp2_with fail
                refine (HC.out w3 HB3.out.1).mono ?_
                rintro e w4 ⟨rfl, hb4⟩
                have HB4 : Hid (Below w3.heap.size w3 w4 ∧ Box5 w4 wr.heap.size k' nm' op' ev' (.slice a' n' c')) := ⟨hb4, HB3.out.2.below hb4⟩
                clear hb4 r0 r1 r2 r3 r4
                have r0 := HB4.out.2.c0
                have r2 := HB4.out.2.c2
                go_wp2_with fail
                go_ret
                exact ⟨by rw [hNO.out (hBad.out hx.out)]; rfl, below_tr (below_tr HTJ.out.1 HB3.out.1) HB4.out.1⟩
              · replace hx := Lib.hid hx
                go_wp2_with fail
                refine (HC.out w3 HB3.out.1).mono ?_
                rintro e w4 ⟨rfl, hb4⟩
                have HB4 : Hid (Below w3.heap.size w3 w4 ∧ Box5 w4 wr.heap.size k' nm' op' ev' (.slice a' n' c')) := ⟨hb4, HB3.out.2.below hb4⟩
                clear hb4 r0 r1 r2 r3 r4
                have r0 := HB4.out.2.c0
                have r2 := HB4.out.2.c2
                go_wp2_with fail
                go_roundw
                case rel => exact ⟨j + 1, by go_num, by omega, hJ1.out hx.out, below_tr (below_tr HTJ.out.1 HB3.out.1) HB4.out.1, (HTJ.out.2.1.below HB3.out.1).below HB4.out.1, (HTJ.out.2.2.below HB3.out.1).below HB4.out.1⟩
                case measure => simp [intOf]; omega
            · rcases hW with ⟨g1, g2, hx⟩ | ⟨g1, g2, g3, hx⟩ | ⟨g1, g2, g3, ⟨g4, hx⟩ | ⟨g4, g5, hx⟩ | ⟨g4, g5, hx⟩⟩
              · replace hx := Lib.hid hx
                go_wp2_with fail
                go_ret
                exact ⟨by rw [hNO.out (hBad.out hx.out)]; rfl, below_tr HTJ.out.1 HB3.out.1⟩
              · replace hx := Lib.hid hx
                go_wp2_with fail
                refine (HC.out w3 HB3.out.1).mono ?_
                rintro e w4 ⟨rfl, hb4⟩
                have HB4 : Hid (Below w3.heap.size w3 w4 ∧ Box5 w4 wr.heap.size k' nm' op' ev' (.slice a' n' c')) := ⟨hb4, HB3.out.2.below hb4⟩
                clear hb4 r0 r1 r2 r3 r4
                have r0 := HB4.out.2.c0
                have r2 := HB4.out.2.c2
                go_wp2_with fail
                go_ret
                exact ⟨by rw [hNO.out (hBad.out hx.out)]; rfl, below_tr (below_tr HTJ.out.1 HB3.out.1) HB4.out.1⟩
              · replace hx := Lib.hid hx
                go_wp2_with fail
                refine (HC.out w3 HB3.out.1).mono ?_
                rintro e w4 ⟨rfl, hb4⟩
                have HB4 : Hid (Below w3.heap.size w3 w4 ∧ Box5 w4 wr.heap.size k' nm' op' ev' (.slice a' n' c')) := ⟨hb4, HB3.out.2.below hb4⟩
                clear hb4 r0 r1 r2 r3 r4
                have r0 := HB4.out.2.c0
                have r2 := HB4.out.2.c2
                go_wp2_with fail
                go_roundw
                case rel => exact ⟨j + 1, by go_num, by omega, hJ1.out hx.out, below_tr (below_tr HTJ.out.1 HB3.out.1) HB4.out.1, (HTJ.out.2.1.below HB3.out.1).below HB4.out.1, (HTJ.out.2.2.below HB3.out.1).below HB4.out.1⟩
                case measure => simp [intOf]; omega
              · replace hx := Lib.hid hx
                go_wp2_with fail
                refine (HC.out w3 HB3.out.1).mono ?_
                rintro e w4 ⟨rfl, hb4⟩
                have HB4 : Hid (Below w3.heap.size w3 w4 ∧ Box5 w4 wr.heap.size k' nm' op' ev' (.slice a' n' c')) := ⟨hb4, HB3.out.2.below hb4⟩
                clear hb4 r0 r1 r2 r3 r4
                have r0 := HB4.out.2.c0
                have r2 := HB4.out.2.c2
                go_wp2_with fail
                go_roundw
                case rel => exact ⟨j + 1, by go_num, by omega, hJ1.out hx.out, below_tr (below_tr HTJ.out.1 HB3.out.1) HB4.out.1, (HTJ.out.2.1.below HB3.out.1).below HB4.out.1, (HTJ.out.2.2.below HB3.out.1).below HB4.out.1⟩
                case measure => simp [intOf]; omega
              · replace hx := Lib.hid hx
                go_wp2_with fail
                refine (HC.out w3 HB3.out.1).mono ?_
                rintro e w4 ⟨rfl, hb4⟩
                have HB4 : Hid (Below w3.heap.size w3 w4 ∧ Box5 w4 wr.heap.size k' nm' op' ev' (.slice a' n' c')) := ⟨hb4, HB3.out.2.below hb4⟩
                clear hb4 r0 r1 r2 r3 r4
                have r0 := HB4.out.2.c0
                have r2 := HB4.out.2.c2
                go_wp2_with fail
                go_ret
                exact ⟨by rw [hNO.out (hBad.out hx.out)]; rfl, below_tr (below_tr HTJ.out.1 HB3.out.1) HB4.out.1⟩
          · have hj1 : ¬ (j : Int) < (n : Int) := by omega
            have hR := HGood.out h16 fun k hk => HJ.out k hk (by omega)
            go_wp2_with fail
            go_roundw
            case rel => exact ⟨i + 1, by go_num, by omega, hOK.out hR, HTJ.out⟩
            case measure => simp [intOf]; omega
    · have hi1 : ¬ (i : Int) < 7 := by omega
      have hR := HYES.out fun j h => HG.out j h (by omega)
      go_wp2_with fail
      go_ret
      exact ⟨rfl, HT.out.1⟩
end Go.Proofs.YtjcefgjgjhdbpaaDoor
