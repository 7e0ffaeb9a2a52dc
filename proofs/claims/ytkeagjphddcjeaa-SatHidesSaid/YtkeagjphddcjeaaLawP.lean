/-
  SatPigeons: the walk. Helper text; the conditions are those typed.
-/
import Derived.Test.YtkeagjphddcjeaaSolQ
import Derived.Test.YtkeagjphddcjeaaSatPig
namespace Go.Proofs.Ytkeagjphddcjeaa
set_option linter.unusedVariables false
set_option linter.unusedSimpArgs false
open Go.RowKit Go.Maps Sat

theorem rng64 {n : Int} (h : (Lit.int .i64 n).wf = true) : -9223372036854775808 ≤ n ∧ n < 9223372036854775808 := by
  simp [Lit.wf, IntKind.min, IntKind.max, IntKind.signed, IntKind.bits] at h
  omega
/-- What is built so far. -/
def pgP (G H h g k : Nat) : List Cl := pgA H G ++ (pgD H G h ++ (pgC H h g ++ pgB H h g k))
theorem pgP_len {G H h g k : Nat} (hG : G ≤ 6) (hg : g ≤ 6) (hk : k ≤ 6) (hh : h ≤ 6) : (pgP G H h g k).length ≤ 300 := by
  unfold pgP
  have h1 := pgA_len H G
  have h2 := pgD_len H G hG h
  have h3 := pgC_len H h g hg
  have h4 := pgB_len H h g k
  simp only [List.length_append]
  omega
theorem pgP_more (G H h g k : Nat) : pgP G H h g (k + 1) = pgP G H h g k ++ [[-((g * H + h + 1 : Nat) : Int), -((k * H + h + 1 : Nat) : Int)]] := by
  unfold pgP
  show _ ++ (_ ++ (_ ++ (pgB H h g k ++ _))) = _
  simp only [List.append_assoc]
theorem pgP_next (G H h g : Nat) : pgP G H h (g + 1) 0 = pgP G H h g g := by
  unfold pgP
  show _ ++ (_ ++ ((pgC H h g ++ pgB H h g g) ++ [])) = _
  simp only [List.append_nil]
theorem pgP_home (G H h : Nat) : pgP G H (h + 1) 0 0 = pgP G H h G 0 := by
  unfold pgP
  show _ ++ ((pgD H G h ++ pgC H h G) ++ ([] ++ [])) = _ ++ (_ ++ (_ ++ []))
  simp only [List.append_nil, List.append_assoc]
theorem pgP_all (G H : Nat) : pgP G H H 0 0 = pg G H := by
  unfold pgP pg
  show _ ++ (_ ++ ([] ++ [])) = _
  simp only [List.append_nil]
theorem pgP_zero (G H : Nat) : pgP G H 0 0 0 = pgA H G := by
  unfold pgP
  show _ ++ ([] ++ ([] ++ [])) = _
  simp only [List.append_nil]
theorem mul_small {a b : Nat} (ha : a ≤ 6) (hb : b ≤ 6) : a * b ≤ 36 := Nat.le_trans (Nat.mul_le_mul ha hb) (by omega)
theorem ones {w : World} {b : Nat} {zs : List Int} {W : World} (hb : w.heap.size = b) (hW : Below (w.alloc (.cells (intsI zs).toArray 3)).heap.size (w.alloc (.cells (intsI zs).toArray 3)) W) {k : Nat} (hk : k = zs.length) : IntsV W (.slice (some ⟨b, 0, none⟩) k k) zs := by
  subst hb
  exact (IntsV.box (boxN_alloc w (intsI zs) 3) hk).below hW

set_option maxHeartbeats 8000000 in
set_option maxRecDepth 100000 in
theorem pigeons_walk (x : Int) (hx0 : -9223372036854775808 ≤ x) (hx1 : x < 9223372036854775808) (w : World) :
    Calls Try.prog 8 #[.int .i64 x] w fun e w' => e = .returned (.bool true) ∧ Below w.heap.size w w' := by
  have HA := Lib.hid awake_c
  go_enter Try.func8, Try.ntmps8
  go_upto_if 17 with (go_at_call 11; refine (HA.out _).mono ?_; rintro e w1 ⟨rfl, hb⟩; have HB1 := Lib.hid hb; clear hb)
  go_cut [0] from 18 (fun v0 wx => ∃ y : Int, v0 = .int .i64 y ∧ 0 ≤ y ∧ y < 9223372036854775808 ∧ Hid (Below w.heap.size w wx))
  case first =>
    by_cases hn : x < 0
    · go_wp2_with fail
      go_meet
      case rel => exact ⟨_, rfl, by go_num, by go_num, HB1⟩
    · go_wp2_with fail
      go_meet
      case rel => exact ⟨_, rfl, by omega, hx1, HB1⟩
  case rest =>
    obtain ⟨y, rfl, hy0, hy1, HBc⟩ := hcut
    go_upto_region 4 with fail
    go_cut [0] from 21 (fun v0 wx => ∃ G : Nat, v0 = .int .i64 (G : Int) ∧ 2 ≤ G ∧ G ≤ 6 ∧ Hid (Below w.heap.size w wx))
    case first =>
      go_wp2_with fail
      go_meet
      case rel =>
        obtain ⟨G, hG⟩ : ∃ G : Nat, (2 + y % 5) = (G : Int) := ⟨(2 + y % 5).toNat, by omega⟩
        exact ⟨G, by rw [← hG], by omega, by omega, HBc⟩
    case rest =>
      obtain ⟨G, rfl, hG2, hG6, HBd⟩ := hcut
      go_wp2_with fail
      go_loopg [4] 2 (fun gk v4 wx => ∃ H : Nat, v4 = .int .i64 (H : Int) ∧ G ≤ H + 1 ∧ H ≤ G + 1 ∧ G + 1 ≤ H + gk ∧ Hid (Below w.heap.size w wx))
      case atStart => exact ⟨G - 1, by go_num, by omega, by omega, by omega, HBd⟩
      case round =>
        obtain ⟨gO, rfl⟩ : ∃ x : Nat, x = gk := ⟨_, rfl⟩
        obtain ⟨H, rfl, hH1, hH2, hH3, HB2⟩ := hrel
        by_cases hHG : H ≤ G
        · have hHi : (H : Int) ≤ (G : Int) := by omega
          obtain ⟨w2, hw2⟩ : ∃ w2, wr = w2 := ⟨_, rfl⟩
          rw [hw2] at HB2 ⊢
          clear hw2
          go_wp2_with fail
          go_loopg [5, 6] G (fun gk v5 v6 wx => ∃ (g : Nat) (vl : Value), vl = v5 ∧ v6 = .int .i64 (g : Int) ∧ g ≤ G ∧ G ≤ g + gk ∧ Hid (MadeR w2.heap.size wx vl (pgA H g) ∧ Below w2.heap.size w2 wx))
          case atStart => exact ⟨0, _, rfl, rfl, by omega, by omega, MadeR.nil _ _, Below.refl _ _⟩
          case round =>
            obtain ⟨gI, rfl⟩ : ∃ x : Nat, x = gk := ⟨_, rfl⟩
            obtain ⟨g, vl, rfl, rfl, hgG, hgk, HM⟩ := hrel
            obtain ⟨w3, hw3⟩ : ∃ w3, wr = w3 := ⟨_, rfl⟩
            rw [hw3] at HM ⊢
            clear hw3
            by_cases hg : g < G
            · have hg1 : (g : Int) < (G : Int) := by omega
              have hgH := mul_small (a := g) (b := H) (by omega) (by omega)
              go_wp2_with fail
              go_loopg [7, 8] H (fun gk v7 v8 wx => ∃ (h : Nat) (vc : Value), vc = v7 ∧ v8 = .int .i64 (h : Int) ∧ h ≤ H ∧ H ≤ h + gk ∧ Hid (OwnI w3 vc (pgR H g h) wx))
              case atStart => exact ⟨0, _, rfl, rfl, by omega, by omega, OwnI.nil _⟩
              case round =>
                obtain ⟨gJ, rfl⟩ : ∃ x : Nat, x = gk := ⟨_, rfl⟩
                obtain ⟨h, vc, rfl, rfl, hhH, hhk, HO⟩ := hrel
                obtain ⟨w4, hw4⟩ : ∃ w4, wr = w4 := ⟨_, rfl⟩
                rw [hw4] at HO ⊢
                clear hw4
                by_cases hh : h < H
                · have hh1 : (h : Int) < (H : Int) := by omega
                  have HZ : Hid ((g : Int) * (H : Int) + (h : Int) + 1 = ((g * H + h + 1 : Nat) : Int)) := by
                    rw [Int.natCast_add, Int.natCast_add, Int.natCast_mul]
                    rfl
                  have HOW : Hid (∀ o, OwnI w3 vc (pgR H g h) (w4.alloc o)) := fun o => HO.out.below (below1 _ _)
                  have HI : Hid (IntsV (w4.alloc (.cells #[.int .i64 ((g : Int) * (H : Int) + (h : Int) + 1)] 3)) (.slice (some ⟨w4.heap.size, 0, none⟩) 1 1) [((g * H + h + 1 : Nat) : Int)]) := by
                    rw [HZ.out]
                    exact ones (w := w4) (zs := [((g * H + h + 1 : Nat) : Int)]) rfl (Below.refl _ _) rfl
                  have HL : Hid (((pgR H g h).length + 1) * 8 ≤ 140737488355328) := by
                    show ((pgR H g h).length + 1) * 8 ≤ 140737488355328
                    rw [pgR_len]
                    omega
                  go_wp2_with (at_builtin; refine wpList_appI rfl (.tmp 41) (.tmp 48) rfl rfl rfl (HOW.out _) HI.out HL.out ?_; intro v9 w9 ho9 hg9; replace ho9 := Lib.hid ho9; clear hg9)
                  go_roundg (gJ - 1)
                  case measure => omega
                  case rel => exact ⟨h + 1, _, rfl, by go_num, by omega, by omega, ho9.out⟩
                · have hE : h = H := by omega
                  subst hE
                  obtain ⟨a7, c7, hv7⟩ := ownsRow_slice HO.out.1
                  rw [pgR_len] at hv7
                  subst hv7
                  have HMM : Hid (∀ o, MadeR w2.heap.size (w4.alloc o) vl (pgA h g)) := fun o => (HM.out.1.below HO.out.2).below (below1 _ _)
                  have HR : Hid (RowsO (w4.alloc (.cells #[.slice a7 h c7] 24)) vl (.slice (some ⟨w4.heap.size, 0, none⟩) 1 1) [pgR h g h]) :=
                    RowsO.one (boxN_alloc w4 [.slice a7 h c7] 24) (HO.out.ints.below (below1 _ _)) (OwnI.off HM.out.1 HO.out)
                  have HL : Hid (((pgA h g).length + 1) * 24 ≤ 140737488355328) := by
                    show ((pgA h g).length + 1) * 24 ≤ 140737488355328
                    rw [pgA_len]
                    omega
                  have HSZ : Hid (Below w2.heap.size w2 (w4.alloc (.cells #[.slice a7 h c7] 24))) := HM.out.2.trans (below_to (below_tr HO.out.2 (below_to (below1 w4 _) (Nat.le_refl _))) HM.out.2.size)
                  go_wp2_with (at_builtin; refine wpList_appR rfl (.tmp 50) (.tmp 52) rfl rfl rfl (HMM.out _) HR.out HL.out HSZ.out.size ?_; intro v9 w9 hm9 hb9; replace hm9 := Lib.hid hm9; replace hb9 := Lib.hid hb9)
                  go_roundg (gI - 1)
                  case measure => omega
                  case rel => exact ⟨g + 1, _, rfl, by go_num, by omega, by omega, hm9.out, HSZ.out.trans hb9.out⟩
            · have hgE : g = G := by omega
              have HA0 : Hid (MadeR w2.heap.size w3 vl (pgP G H 0 0 0) ∧ Below w2.heap.size w2 w3) := by
                rw [pgP_zero, ← hgE]
                exact HM.out
              clear HM hgE
              go_wp2_with fail
              go_loopg [5, 9] H (fun gk v5 v9 wx => ∃ (h : Nat) (vl : Value), vl = v5 ∧ v9 = .int .i64 (h : Int) ∧ h ≤ H ∧ H ≤ h + gk ∧ Hid (MadeR w2.heap.size wx vl (pgP G H h 0 0) ∧ Below w2.heap.size w2 wx))
              case atStart => exact ⟨0, _, rfl, rfl, by omega, by omega, HA0.out⟩
              case round =>
                clear HA0
                obtain ⟨gJ, rfl⟩ : ∃ x : Nat, x = gk := ⟨_, rfl⟩
                obtain ⟨h, vl, rfl, rfl, hhH, hhk, HM⟩ := hrel
                obtain ⟨w4, hw4⟩ : ∃ w4, wr = w4 := ⟨_, rfl⟩
                rw [hw4] at HM ⊢
                clear hw4
                by_cases hh : h < H
                · have hh1 : (h : Int) < (H : Int) := by omega
                  go_wp2_with fail
                  go_loopg [5, 10] G (fun gk v5 v10 wx => ∃ (g : Nat) (vl : Value), vl = v5 ∧ v10 = .int .i64 (g : Int) ∧ g ≤ G ∧ G ≤ g + gk ∧ Hid (MadeR w2.heap.size wx vl (pgP G H h g 0) ∧ Below w2.heap.size w2 wx))
                  case atStart => exact ⟨0, _, rfl, rfl, by omega, by omega, HM.out⟩
                  case round =>
                    clear HM
                    obtain ⟨gK, rfl⟩ : ∃ x : Nat, x = gk := ⟨_, rfl⟩
                    obtain ⟨g, vl, rfl, rfl, hgG, hgk, HM⟩ := hrel
                    obtain ⟨w5, hw5⟩ : ∃ w5, wr = w5 := ⟨_, rfl⟩
                    rw [hw5] at HM ⊢
                    clear hw5
                    by_cases hg : g < G
                    · have hg1 : (g : Int) < (G : Int) := by omega
                      have hgH := mul_small (a := g) (b := H) (by omega) (by omega)
                      go_wp2_with fail
                      go_loopg [5, 11] g (fun gk v5 v11 wx => ∃ (k : Nat) (vl : Value), vl = v5 ∧ v11 = .int .i64 (k : Int) ∧ k ≤ g ∧ g ≤ k + gk ∧ Hid (MadeR w2.heap.size wx vl (pgP G H h g k) ∧ Below w2.heap.size w2 wx))
                      case atStart => exact ⟨0, _, rfl, rfl, by omega, by omega, HM.out⟩
                      case round =>
                        clear HM
                        obtain ⟨gL, rfl⟩ : ∃ x : Nat, x = gk := ⟨_, rfl⟩
                        obtain ⟨k, vl, rfl, rfl, hkg, hkk, HM⟩ := hrel
                        obtain ⟨w6, hw6⟩ : ∃ w6, wr = w6 := ⟨_, rfl⟩
                        rw [hw6] at HM ⊢
                        clear hw6
                        by_cases hk : k < g
                        · have hk1 : (k : Int) < (g : Int) := by omega
                          have hkH := mul_small (a := k) (b := H) (by omega) (by omega)
                          have HZ : Hid ((g : Int) * (H : Int) + (h : Int) + 1 = ((g * H + h + 1 : Nat) : Int)) := by
                            rw [Int.natCast_add, Int.natCast_add, Int.natCast_mul]
                            rfl
                          have HY : Hid ((k : Int) * (H : Int) + (h : Int) + 1 = ((k * H + h + 1 : Nat) : Int)) := by
                            rw [Int.natCast_add, Int.natCast_add, Int.natCast_mul]
                            rfl
                          have hb2 := below2 w6 (.cells #[.int .i64 (-((g : Int) * (H : Int) + (h : Int) + 1)), .int .i64 (-((k : Int) * (H : Int) + (h : Int) + 1))] 3) (.cells #[.slice (some ⟨w6.heap.size, 0, none⟩) 2 2] 24)
                          have HSZ : Hid (Below w2.heap.size w2 ((w6.alloc (.cells #[.int .i64 (-((g : Int) * (H : Int) + (h : Int) + 1)), .int .i64 (-((k : Int) * (H : Int) + (h : Int) + 1))] 3)).alloc (.cells #[.slice (some ⟨w6.heap.size, 0, none⟩) 2 2] 24)) ∧ MadeR w2.heap.size ((w6.alloc (.cells #[.int .i64 (-((g : Int) * (H : Int) + (h : Int) + 1)), .int .i64 (-((k : Int) * (H : Int) + (h : Int) + 1))] 3)).alloc (.cells #[.slice (some ⟨w6.heap.size, 0, none⟩) 2 2] 24)) vl (pgP G H h g k)) := ⟨below_tr HM.out.2 hb2, HM.out.1.below hb2⟩
                          have HR : Hid (RowsO ((w6.alloc (.cells #[.int .i64 (-((g : Int) * (H : Int) + (h : Int) + 1)), .int .i64 (-((k : Int) * (H : Int) + (h : Int) + 1))] 3)).alloc (.cells #[.slice (some ⟨w6.heap.size, 0, none⟩) 2 2] 24)) vl (.slice (some ⟨w6.heap.size + 1, 0, none⟩) 1 1) [[-((g * H + h + 1 : Nat) : Int), -((k * H + h + 1 : Nat) : Int)]]) := by
                            rw [HZ.out, HY.out]
                            have hs : (w6.alloc (.cells #[.int .i64 (-((g * H + h + 1 : Nat) : Int)), .int .i64 (-((k * H + h + 1 : Nat) : Int))] 3)).heap.size = w6.heap.size + 1 := by simp
                            rw [← hs]
                            exact RowsO.one (boxN_alloc _ [.slice (some ⟨w6.heap.size, 0, none⟩) 2 2] 24) (ones (w := w6) (zs := [-((g * H + h + 1 : Nat) : Int), -((k * H + h + 1 : Nat) : Int)]) rfl (below1 _ _) rfl) (off_new HM.out.1 (Nat.le_refl _))
                          have HL : Hid (((pgP G H h g k).length + 1) * 24 ≤ 140737488355328) := by
                            have := pgP_len (G := G) (H := H) (h := h) (g := g) (k := k) hG6 (by omega) (by omega) (by omega)
                            show ((pgP G H h g k).length + 1) * 24 ≤ 140737488355328
                            omega
                          clear hb2
                          go_wp2_with (at_builtin; refine wpList_appR rfl (.tmp 69) (.tmp 85) rfl rfl rfl HSZ.out.2 HR.out HL.out HSZ.out.1.size ?_; intro v9 w9 hm9 hb9; replace hm9 := Lib.hid hm9; replace hb9 := Lib.hid hb9)
                          go_roundg (gL - 1)
                          case measure => omega
                          case rel => exact ⟨k + 1, _, rfl, by go_num, by omega, by omega, by rw [pgP_more]; exact hm9.out, HSZ.out.1.trans hb9.out⟩
                        · have hE : k = g := by omega
                          have HN : Hid (MadeR w2.heap.size w6 vl (pgP G H h (g + 1) 0) ∧ Below w2.heap.size w2 w6) := by
                            rw [pgP_next, ← hE]
                            rw [hE] at HM ⊢
                            exact HM.out
                          clear hE
                          go_wp2_with fail
                          go_roundg (gK - 1)
                          case measure => omega
                          case rel => exact ⟨g + 1, _, rfl, by go_num, by omega, by omega, HN.out⟩
                    · have hE : g = G := by omega
                      have HN : Hid (MadeR w2.heap.size w5 vl (pgP G H (h + 1) 0 0) ∧ Below w2.heap.size w2 w5) := by
                        rw [pgP_home]
                        rw [hE] at HM
                        exact HM.out
                      clear hE
                      go_wp2_with fail
                      go_roundg (gJ - 1)
                      case measure => omega
                      case rel => exact ⟨h + 1, _, rfl, by go_num, by omega, by omega, HN.out⟩
                · have hE : h = H := by omega
                  have HN : Hid (MadeR w2.heap.size w4 vl (pg G H) ∧ Below w2.heap.size w2 w4) := by
                    rw [← pgP_all]
                    rw [hE] at HM
                    exact HM.out
                  have hGH := mul_small (a := G) (b := H) (by omega) (by omega)
                  have HSV : Hid (Calls Try.prog 14 #[.int .i64 ((G : Int) * (H : Int)), vl, .slice none 0 0] w4 (SolvePost w4 (G * H) (pg G H) [])) := by
                    have hlen : (pg G H).length ≤ 300 := by
                      rw [← pgP_all]
                      exact pgP_len hG6 (by omega) (by omega) (by omega)
                    have hp : 2 ^ (G * H) ≤ 2 ^ 36 := Nat.pow_le_pow_right (by omega) hGH
                    have h2 : (2 : Nat) ^ 36 = 68719476736 := by decide
                    have := solve_c (n := G * H) (by omega) HN.out.1.rows (IntsV.nil w4) (by omega) (fun c hc => Nat.le_trans (pg_short (by omega) c hc) (by omega)) (by simp) (litsB_ok.2 ⟨pg_ok, fun x hx => by cases hx⟩) (.inl (by omega))
                    rw [Int.natCast_mul] at this
                    exact this
                  clear hE HM
                  go_wp2_with fail
                  refine HSV.out.mono ?_
                  rintro e w5 ⟨hb5, hres⟩
                  have HB5 : Hid (Below w.heap.size w w5) := HB2.out.trans (below_to (HN.out.2.trans (below_to hb5 HN.out.2.size)) HB2.out.size)
                  clear hb5 HSV HN
                  by_cases hE : H = G
                  · have hEi : ((H : Int) == (G : Int)) = true := by simp [hE]
                    rcases hres with ⟨gv, v, rfl, _, _, hbest⟩ | ⟨_, hun⟩
                    · clear hbest
                      go_wp2_with fail
                      go_roundg (gO - 1)
                      case measure => omega
                      case rel => exact ⟨H + 1, by go_num, by omega, by omega, by omega, HB5⟩
                    · rw [hE] at hun
                      obtain ⟨v, hv⟩ := pg_sat G
                      exact absurd hv (hun v)
                  · have hEi : ((H : Int) == (G : Int)) = false := by
                      rw [beq_eq_false_iff_ne]
                      omega
                    rcases hres with ⟨gv, v, rfl, _, _, hbest⟩ | ⟨rfl, hun⟩
                    · exact absurd hbest.1 (pg_unsat (by omega) v)
                    · clear hun
                      go_wp2_with fail
                      go_roundg (gO - 1)
                      case measure => omega
                      case rel => exact ⟨H + 1, by go_num, by omega, by omega, by omega, HB5⟩
        · go_wp2_with fail
          go_ret
          exact ⟨rfl, HB2.out⟩
end Go.Proofs.Ytkeagjphddcjeaa
