/-
  SatChains: the walk. Helper text; the conditions are those typed.
-/
import Derived.Test.YtkeagjphddcjeaaLawP
import Derived.Test.YtkeagjphddcjeaaSatChain
namespace Go.Proofs.Ytkeagjphddcjeaa
set_option linter.unusedVariables false
set_option linter.unusedSimpArgs false
open Go.RowKit Go.Maps Sat

theorem MadeR.box1 {B : Nat} {w : World} {b : Nat} {x : Value} {l : List Int} (h : BoxN w b [x] 24) (hb : B ≤ b) (hx : IntsV w x l) (ho : x.ownBlock ≠ some b) : MadeR B w (.slice (some ⟨b, 0, none⟩) 1 1) [l] :=
  ⟨[x], rfl, ⟨rfl, .inr ⟨b, 1, #[x], rfl, hb, h, Nat.le_refl _, by unfold maxLen; omega, rfl, rfl⟩⟩, fun i x' l' hx' hl' => by
    cases i with
    | zero =>
      have e1 : x = x' := by simpa using hx'
      have e2 : l = l' := by simpa using hl'
      subst e1 e2
      exact ⟨hx, .inr fun g hg e => ho (by rw [e, ← hg]; rfl)⟩
    | succ i => simp at hx'⟩
/-- One row of numbers, in a row of its own, new. -/
theorem rows_new1 {B : Nat} {w : World} {v : Value} {ls : List (List Int)} (h : MadeR B w v ls) (zs : List Int) (k : Nat) (hk : k = zs.length) : RowsO ((w.alloc (.cells (intsI zs).toArray 3)).alloc (.cells #[.slice (some ⟨w.heap.size, 0, none⟩) k k] 24)) v (.slice (some ⟨w.heap.size + 1, 0, none⟩) 1 1) [zs] := by
  have hs : (w.alloc (.cells (intsI zs).toArray 3)).heap.size = w.heap.size + 1 := by simp
  rw [← hs]
  exact RowsO.one (boxN_alloc _ [.slice (some ⟨w.heap.size, 0, none⟩) k k] 24) (ones (w := w) (zs := zs) rfl (below1 _ _) hk) (off_new h (Nat.le_refl _))
theorem made_new1 (w : World) (zs : List Int) (k : Nat) (hk : k = zs.length) : MadeR w.heap.size ((w.alloc (.cells (intsI zs).toArray 3)).alloc (.cells #[.slice (some ⟨w.heap.size, 0, none⟩) k k] 24)) (.slice (some ⟨w.heap.size + 1, 0, none⟩) 1 1) [zs] := by
  have hs : (w.alloc (.cells (intsI zs).toArray 3)).heap.size = w.heap.size + 1 := by simp
  rw [← hs]
  refine MadeR.box1 (boxN_alloc _ [.slice (some ⟨w.heap.size, 0, none⟩) k k] 24) (by omega) (ones (w := w) (zs := zs) rfl (below1 _ _) hk) fun e => ?_
  simp [Value.ownBlock] at e
def chN (n : Nat) : List Cl := chA (n - 1) ++ [[-(n : Int)]]
theorem chA_h {n : Nat} {ls : List Cl} (h : ∀ c ∈ chA (n - 1), c ∈ ls) : [1] ∈ ls ∧ ∀ i, i + 1 < n → chC i ∈ ls :=
  ⟨h _ (chA_mem.2 (.inl rfl)), fun i hi => h _ (chA_mem.2 (.inr ⟨i, by omega, rfl⟩))⟩
theorem ch_no {n : Nat} {ls : List Cl} (h : ∀ c ∈ chA (n - 1), c ∈ ls) (pr : List Int) : NoGuess n ls pr := fun cs tr sg ht hc hw hcov hg => ch_all (chA_h h).1 (chA_h h).2 ht hc hw hcov hg
theorem chN_un {n : Nat} (hn : 1 ≤ n) (v : Asg) : ¬ sat v (chN n) := fun hv => by
  obtain ⟨h1, h2⟩ := chA_h (n := n) (ls := chN n) fun c hc => List.mem_append_left _ hc
  have h3 := ch_true h1 h2 hv (n - 1) (by omega)
  obtain ⟨l, hl, hb⟩ := hv [-(n : Int)] (List.mem_append_right _ (by simp))
  rw [List.mem_singleton.1 hl, show (n : Int) = ((n - 1 + 1 : Nat) : Int) from by omega, litB_down, h3] at hb
  cases hb

theorem ch_e1 (wr : World) : MadeR wr.heap.size (wr.alloc (.cells #[] 24)) (.slice (some ⟨wr.heap.size, 0, none⟩) 0 0) [] := MadeR.empty (boxN_alloc wr [] 24) (Nat.le_refl _)
theorem ch_e2 {B : Nat} {wr : World} {vl : Value} {ls : List (List Int)} (h : MadeR B wr vl ls) : RowsO (wr.alloc (.cells #[] 24)) (.slice (some ⟨wr.heap.size, 0, none⟩) 0 0) vl ls := RowsO.low h.rows (below1 _ _) fun g hg => by
  have : wr.heap.size = g := by simpa [Value.ownBlock] using hg
  omega
theorem chN_len {N : Nat} (hN2 : 2 ≤ N) : (chN N).length = N + 1 := by
  unfold chN
  rw [List.length_append, chA_len, List.length_singleton]
  omega
theorem ch_second {N : Nat} (hN2 : 2 ≤ N) (hN4 : N ≤ 400) (B : Nat) (W : World) (v : Value) (hm : MadeR B W v (chN N)) : Calls Try.prog 14 #[.int .i64 (N : Int), v, .slice none 0 0] W fun e w' => e = .returned (.tuple #[.slice none 0 0, .bool false, .int .i64 0]) ∧ Below W.heap.size W w' := by
  have hlen := chN_len hN2
  have hlit : litsB N (chN N) [] = true := by
    refine litsB_ok.2 ⟨fun c hc => ?_, fun x hx => by cases hx⟩
    rcases List.mem_append.1 hc with hc | hc
    · exact ch_lok (by omega) c hc
    · rw [List.mem_singleton.1 hc]
      intro x hx
      rw [List.mem_singleton.1 hx]
      unfold Lok
      omega
  have hsh : ∀ c ∈ chN N, c.length ≤ 17592186044416 := fun c hc => by
    rcases List.mem_append.1 hc with hc | hc
    · exact Nat.le_trans (ch_short c hc) (by omega)
    · rw [List.mem_singleton.1 hc]
      simp
  have h := solve_c (n := N) hN4 hm.rows (IntsV.nil W) (by omega) hsh (by simp) hlit (.inr (ch_no (fun c hc => List.mem_append_left _ hc) _))
  refine h.mono fun e w' ⟨hb, hres⟩ => ?_
  rcases hres with ⟨_, v, _, _, _, hbest⟩ | ⟨rfl, _⟩
  · exact absurd hbest.1 (chN_un (by omega) v)
  · exact ⟨rfl, hb⟩

theorem ch_third {B N : Nat} (hN4 : N ≤ 400) {w9 : World} {v9 : Value} (h : MadeR B w9 v9 ([] ++ chA (N - 1))) :
    MadeR B ((w9.alloc (.cells #[.int .i64 (-(N : Int))] 3)).alloc (.cells #[.slice (some ⟨w9.heap.size, 0, none⟩) 1 1] 24)) v9 ([] ++ chA (N - 1)) ∧ RowsO ((w9.alloc (.cells #[.int .i64 (-(N : Int))] 3)).alloc (.cells #[.slice (some ⟨w9.heap.size, 0, none⟩) 1 1] 24)) v9 (.slice (some ⟨w9.heap.size + 1, 0, none⟩) 1 1) [[-(N : Int)]]
      ∧ (([] ++ chA (N - 1)).length + [[-(N : Int)]].length) * 24 ≤ 140737488355328 := by
  refine ⟨h.below (below2 _ _ _), rows_new1 h [-(N : Int)] 1 rfl, ?_⟩
  rw [List.nil_append, chA_len, List.length_singleton]
  omega
theorem ch_fourth {B N : Nat} {w : World} {v : Value} (h : MadeR B w v (([] ++ chA (N - 1)) ++ [[-(N : Int)]])) : MadeR B w v (chN N) := by
  rw [List.nil_append] at h
  exact h

set_option maxHeartbeats 8000000 in
set_option maxRecDepth 100000 in
theorem chains_walk (x z : Int) (hx0 : -9223372036854775808 ≤ x) (hx1 : x < 9223372036854775808) (hz0 : -9223372036854775808 ≤ z) (hz1 : z < 9223372036854775808) (w : World) :
    Calls Try.prog 7 #[.int .i64 x, .int .i64 z] w fun e w' => e = .returned (.bool true) ∧ Below w.heap.size w w' := by
  have HA := Lib.hid awake_c
  go_enter Try.func7, Try.ntmps7
  go_upto_if 17 with (go_at_call 11; refine (HA.out _).mono ?_; rintro e w1 ⟨rfl, hb⟩; have HB1 := Lib.hid hb; clear hb)
  go_cut [0] from 18 (fun v0 wx => ∃ y : Int, v0 = .int .i64 y ∧ 0 ≤ y ∧ y < 9223372036854775808 ∧ Hid (Below w.heap.size w wx))
  case first =>
    by_cases hn : x < 0
    · go_wp2_with fail
      go_meet
      case rel => exact ⟨_, rfl, by go_num, by go_num, HB1⟩
    · go_wp2_with fail
      go_meet
      case rel => exact ⟨_, rfl, by omega, hx1, HB1⟩
  case rest =>
    obtain ⟨y, rfl, hy0, hy1, HBc⟩ := hcut
    go_upto_region 4 with fail
    go_cut [0] from 21 (fun v0 wx => ∃ N : Nat, v0 = .int .i64 (N : Int) ∧ 2 ≤ N ∧ N ≤ 400 ∧ Hid (Below w.heap.size w wx))
    case first =>
      go_wp2_with fail
      go_meet
      case rel =>
        obtain ⟨N, hN⟩ : ∃ N : Nat, (2 + y % 399) = (N : Int) := ⟨(2 + y % 399).toNat, by omega⟩
        exact ⟨N, by rw [← hN], by omega, by omega, HBc⟩
    case rest =>
      obtain ⟨N, rfl, hN2, hN4, HBd⟩ := hcut
      go_upto_if 25 with fail
      go_cut [1] from 26 (fun v1 wx => ∃ y : Int, v1 = .int .i64 y ∧ 0 ≤ y ∧ y < 9223372036854775808 ∧ Hid (Below w.heap.size w wx))
      case first =>
        by_cases hn : z < 0
        · go_wp2_with fail
          go_meet
          case rel => exact ⟨_, rfl, by go_num, by go_num, HBd⟩
        · go_wp2_with fail
          go_meet
          case rel => exact ⟨_, rfl, by omega, hz1, HBd⟩
      case rest =>
        obtain ⟨y2, rfl, hy20, hy21, HBe⟩ := hcut
        go_upto_region 7 with fail
        go_cut [1] from 29 (fun v1 wx => ∃ T : Nat, v1 = .int .i64 (T : Int) ∧ T < N ∧ Hid (Below w.heap.size w wx))
        case first =>
          have hNz : ((N : Int) == 0) = false := by
            rw [beq_eq_false_iff_ne]
            omega
          go_wp2_with fail
          go_meet
          case rel =>
            have h1 := Int.emod_nonneg y2 (b := (N : Int)) (by omega)
            have h2 := Int.emod_lt_of_pos y2 (b := (N : Int)) (by omega)
            obtain ⟨T, hT⟩ : ∃ T : Nat, y2 % (N : Int) = (T : Int) := ⟨(y2 % (N : Int)).toNat, by omega⟩
            exact ⟨T, by rw [hT], by omega, HBe⟩
        case rest =>
          obtain ⟨T, rfl, hT, HBf⟩ := hcut
          obtain ⟨w2, rfl⟩ : ∃ w2 : World, w2 = wc := ⟨_, rfl⟩
          have HM0 : Hid (MadeR w2.heap.size ((w2.alloc (.cells #[.int .i64 1] 3)).alloc (.cells #[.slice (some ⟨w2.heap.size, 0, none⟩) 1 1] 24)) (.slice (some ⟨w2.heap.size + 1, 0, none⟩) 1 1) (chA 0) ∧ Below w2.heap.size w2 ((w2.alloc (.cells #[.int .i64 1] 3)).alloc (.cells #[.slice (some ⟨w2.heap.size, 0, none⟩) 1 1] 24))) := ⟨made_new1 w2 [1] 1 rfl, below2 _ _ _⟩
          go_wp2_with fail
          go_loopg [6, 7] N (fun gk v6 v7 wx => ∃ (i j : Nat) (vl : Value), vl = v6 ∧ i = j + 1 ∧ v7 = .int .i64 (i : Int) ∧ i ≤ N ∧ N ≤ i + gk ∧ Hid (MadeR w2.heap.size wx vl (chA j) ∧ Below w2.heap.size w2 wx))
          case atStart => exact ⟨1, 0, _, rfl, rfl, rfl, by omega, by omega, HM0.out⟩
          case round =>
            clear HM0
            obtain ⟨gI, rfl⟩ : ∃ x : Nat, x = gk := ⟨_, rfl⟩
            obtain ⟨i, j, vl, rfl, hij, rfl, hiN, hik, HM⟩ := hrel
            obtain ⟨w3, hw3⟩ : ∃ w3, wr = w3 := ⟨_, rfl⟩
            rw [hw3] at HM ⊢
            clear hw3
            by_cases hi : i < N
            · have hi1 : (i : Int) < (N : Int) := by omega
              have HC : Hid (chC j = [-(i : Int), (i : Int) + 1]) := by
                show chC j = _
                unfold chC
                rw [hij, show ((j + 2 : Nat) : Int) = ((j + 1 : Nat) : Int) + 1 from by omega]
              have HIJ := Lib.hid hij
              clear hij
              have hb2 := below2 w3 (.cells #[.int .i64 (-(i : Int)), .int .i64 ((i : Int) + 1)] 3) (.cells #[.slice (some ⟨w3.heap.size, 0, none⟩) 2 2] 24)
              have HSZ : Hid (Below w2.heap.size w2 ((w3.alloc (.cells #[.int .i64 (-(i : Int)), .int .i64 ((i : Int) + 1)] 3)).alloc (.cells #[.slice (some ⟨w3.heap.size, 0, none⟩) 2 2] 24)) ∧ MadeR w2.heap.size ((w3.alloc (.cells #[.int .i64 (-(i : Int)), .int .i64 ((i : Int) + 1)] 3)).alloc (.cells #[.slice (some ⟨w3.heap.size, 0, none⟩) 2 2] 24)) vl (chA j)) := ⟨below_tr HM.out.2 hb2, HM.out.1.below hb2⟩
              have HR : Hid (RowsO ((w3.alloc (.cells #[.int .i64 (-(i : Int)), .int .i64 ((i : Int) + 1)] 3)).alloc (.cells #[.slice (some ⟨w3.heap.size, 0, none⟩) 2 2] 24)) vl (.slice (some ⟨w3.heap.size + 1, 0, none⟩) 1 1) [[-(i : Int), (i : Int) + 1]]) := rows_new1 HM.out.1 [-(i : Int), (i : Int) + 1] 2 rfl
              have HL : Hid (((chA j).length + 1) * 24 ≤ 140737488355328) := by
                show ((chA j).length + 1) * 24 ≤ 140737488355328
                have h1 := HIJ.out
                rw [chA_len]
                omega
              clear hb2
              go_wp2_with (at_builtin; refine wpList_appR rfl (.tmp 39) (.tmp 45) rfl rfl rfl HSZ.out.2 HR.out HL.out HSZ.out.1.size ?_; intro v9 w9 hm9 hb9; replace hm9 := Lib.hid hm9; replace hb9 := Lib.hid hb9)
              go_roundg (gI - 1)
              case measure => omega
              case rel => exact ⟨i + 1, j + 1, _, rfl, by have := HIJ.out; omega, by go_num, by omega, by omega, by
                show MadeR _ _ _ (chA j ++ [chC j])
                rw [HC.out]
                exact hm9.out, HSZ.out.1.trans hb9.out⟩
            · have hjN : j = N - 1 := by omega
              have HJ := Lib.hid hjN
              subst hjN
              have hb1 := below1 w3 (.cells #[.int .i64 (-((T : Int) + 1))] 3)
              have HSV := Lib.hid (solve_c (n := N) hN4 (HM.out.1.below hb1).rows (ones (w := w3) (zs := [-((T : Int) + 1)]) (k := 1) rfl (Below.refl _ _) rfl) (by rw [chA_len]; omega) (fun c hc => Nat.le_trans (ch_short c hc) (by omega)) (by simp) (litsB_ok.2 ⟨ch_lok (by omega), fun x hx => by
                rw [List.mem_singleton.1 hx]
                unfold Lok
                omega⟩) (.inr (ch_no (fun c hc => hc) _)))
              have HW4 : Hid (Below w2.heap.size w2 (w3.alloc (.cells #[.int .i64 (-((T : Int) + 1))] 3))) := below_tr HM.out.2 hb1
              have HM4 : Hid (MadeR w2.heap.size (w3.alloc (.cells #[.int .i64 (-((T : Int) + 1))] 3)) vl (chA (N - 1))) := HM.out.1.below hb1
              clear hb1 hij
              go_wp2_with fail
              refine HSV.out.mono ?_
              rintro e w5 ⟨hb5, hres⟩
              have H5 : Hid (Below w2.heap.size w2 w5 ∧ MadeR w2.heap.size w5 vl (chA (N - 1))) := ⟨HW4.out.trans (below_to hb5 HW4.out.size), HM4.out.below hb5⟩
              clear hb5 HSV HW4 HM4
              rcases hres with ⟨gv, v, rfl, _, hbox, hbest⟩ | ⟨rfl, hun⟩
              · have HT : Hid (∀ u, u < N → v u = true) := fun u hu => ch_true (chA_h (n := N) (fun c hc => hc)).1 (chA_h (n := N) (fun c hc => hc)).2 hbest.1 u hu
                have HBX := Lib.hid hbox
                clear hbest hbox
                go_wp2_with fail
                go_loopg [11] N (fun gk v11 wx => ∃ i : Nat, v11 = .int .i64 (i : Int) ∧ i ≤ N ∧ N ≤ i + gk ∧ wx = w5)
                case atStart => exact ⟨0, rfl, by omega, by omega, rfl⟩
                case round =>
                  obtain ⟨gJ, rfl⟩ : ∃ x : Nat, x = gk := ⟨_, rfl⟩
                  obtain ⟨k, rfl, hkN, hkk, rfl⟩ := hrel
                  by_cases hk : k < N
                  · have hk1 : (k : Int) < (N : Int) := by omega
                    have c0 : wr.cell? ⟨gv, k, none⟩ = some (.bool true) := by
                      have := HBX.out.cell hk
                      rw [HT.out k hk] at this
                      exact this
                    go_wp2_with fail
                    go_roundg (gJ - 1)
                    case measure => omega
                    case rel => exact ⟨k + 1, by go_num, by omega, by omega, rfl⟩
                  · have HB : Hid (Below wr.heap.size wr (wr.alloc (.cells #[] 24))) := below1 _ _
                    have HE := Lib.hid (ch_e1 wr)
                    have HR := Lib.hid (ch_e2 H5.out.2)
                    have HL1 : Hid ((([] : List (List Int)).length + (chA (N - 1)).length) * 24 ≤ 140737488355328) := by
                      show (([] : List (List Int)).length + (chA (N - 1)).length) * 24 ≤ 140737488355328
                      rw [chA_len, List.length_nil]
                      omega
                    have HS3 := Lib.hid (ch_second hN2 hN4 wr.heap.size)
                    go_wp2_with (at_builtin; first
                      | (refine wpList_appR rfl (.tmp 82) (.tmp 83) rfl rfl rfl HE.out HR.out HL1.out HB.out.size ?_; intro v9 w9 hm9 hb9; have HT9 := Lib.hid (ch_third hN4 hm9); have H9 := Lib.hid hb9; clear hm9 hb9)
                      | (refine wpList_appR rfl (.tmp 84) (.tmp 88) rfl rfl rfl HT9.out.1 HT9.out.2.1 HT9.out.2.2 (Nat.le_trans HB.out.size (Nat.le_trans H9.out.size (below2 _ _ _).size)) ?_; intro v10 w10 hm10 hb10; have HM10 := Lib.hid (ch_second hN2 hN4 wr.heap.size w10 v10 (ch_fourth hm10)); have H10 := Lib.hid hb10; clear hm10 hb10))
                    refine HM10.out.mono ?_
                    rintro e w11 ⟨rfl, hb11⟩
                    have H11 := Lib.hid hb11
                    clear hb11
                    have B1 : Below w.heap.size w wr := below_tr HBf.out H5.out.1
                    have B2 := HB.out.trans H9.out
                    have B3 := (B2.trans (below_to (below2 w9 _ _) B2.size)).trans H10.out
                    have HF := Lib.hid (below_tr B1 (B3.trans (below_to H11.out B3.size)))
                    clear B1 B2 B3
                    go_wp2_with fail
                    go_ret
                    exact ⟨rfl, HF.out⟩
              · exact absurd (ch_sat N (N - 1)) (hun _)
end Go.Proofs.Ytkeagjphddcjeaa
