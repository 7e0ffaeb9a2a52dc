/-
  fold, folded: what the laws make of raw numbers. Helper text; the conditions are those typed.
-/
import Derived.Test.YtkeagjphddcjeaaLawP
namespace Go.Proofs.Ytkeagjphddcjeaa
set_option linter.unusedVariables false
set_option linter.unusedSimpArgs false
open Go.RowKit Go.Maps Sat

/-- A literal of n variables, by a raw number. -/
def foldZ (n : Nat) (l : Int) : Int := if l < 0 then -((-(l + 1)) % (n : Int) + 1) else l % (n : Int) + 1
theorem foldZ_ok {n : Nat} (hn : 1 ≤ n) (l : Int) : Lok n (foldZ n l) := by
  unfold foldZ Lok
  split
  · have h1 := Int.emod_nonneg (-(l + 1)) (b := (n : Int)) (by omega)
    have h2 := Int.emod_lt_of_pos (-(l + 1)) (b := (n : Int)) (by omega)
    generalize (-(l + 1)) % (n : Int) = r at *
    omega
  · have h1 := Int.emod_nonneg l (b := (n : Int)) (by omega)
    have h2 := Int.emod_lt_of_pos l (b := (n : Int)) (by omega)
    generalize l % (n : Int) = r at *
    omega
set_option maxHeartbeats 2000000 in
theorem fold_c {n : Nat} (hn1 : 1 ≤ n) (hn : n ≤ 400) {l : Int} (h0 : -9223372036854775808 ≤ l) (h1 : l < 9223372036854775808) (w : World) :
    Calls Try.prog 23 #[.int .i64 l, .int .i64 (n : Int)] w fun e w' => e = .returned (.int .i64 (foldZ n l)) ∧ w' = w := by
  obtain ⟨z, hz⟩ : ∃ z, foldZ n l = z := ⟨_, rfl⟩
  rw [hz]
  have hNz : ((n : Int) == 0) = false := by
    rw [beq_eq_false_iff_ne]
    omega
  unfold foldZ at hz
  by_cases hl : l < 0
  · rw [if_pos hl] at hz
    have h2 := Int.emod_nonneg (-(l + 1)) (b := (n : Int)) (by omega)
    have h3 := Int.emod_lt_of_pos (-(l + 1)) (b := (n : Int)) (by omega)
    have HZ := Lib.hid hz
    clear hz
    go_enter Try.func23, Try.ntmps23
    go_wp2_with fail
    go_ret
    refine ⟨?_, rfl⟩
    rw [← HZ.out]
    show Ending.returned (.int .i64 (wrap64 (-wrap64 (-(l + 1).tmod (n : Int) + 1)))) = _
    have e : -(l + 1).tmod (n : Int) = (-(l + 1)) % (n : Int) := by
      rw [← Int.neg_tmod, Int.tmod_eq_emod_of_nonneg (by omega)]
    rw [e]
    generalize (-(l + 1)) % (n : Int) = r at *
    have e2 : wrap64 (-wrap64 (r + 1)) = -(r + 1) := by unfold wrap64; omega
    rw [e2]
  · rw [if_neg hl] at hz
    have h2 := Int.emod_nonneg l (b := (n : Int)) (by omega)
    have h3 := Int.emod_lt_of_pos l (b := (n : Int)) (by omega)
    have HZ := Lib.hid hz
    clear hz
    go_enter Try.func23, Try.ntmps23
    go_wp2_with fail
    go_ret
    exact ⟨by rw [← HZ.out]; rfl, rfl⟩

/-- What 'folded' makes. -/
def foldC (n : Nat) (c : List Int) : List Int := (c.take 4).map (foldZ n)
def foldL (n : Nat) (ls : List (List Int)) (most : Nat) : List (List Int) := (ls.take most).map (foldC n)
theorem foldL_succ {n : Nat} {ls : List (List Int)} {i : Nat} {c : List Int} (h : ls[i]? = some c) : foldL n ls (i + 1) = foldL n ls i ++ [foldC n c] := by
  have hi := (List.getElem?_eq_some_iff.1 h).1
  unfold foldL
  rw [List.take_succ_eq_append_getElem hi, List.map_append, (List.getElem?_eq_some_iff.1 h).2]
  rfl
theorem foldL_ok {n : Nat} (hn : 1 ≤ n) {ls : List (List Int)} {most : Nat} : ∀ c ∈ foldL n ls most, ∀ x ∈ c, Lok n x := fun c hc x hx => by
  obtain ⟨d, _, rfl⟩ := List.mem_map.1 hc
  obtain ⟨y, _, rfl⟩ := List.mem_map.1 hx
  exact foldZ_ok hn y
theorem foldL_len (n : Nat) (ls : List (List Int)) (most : Nat) : (foldL n ls most).length ≤ most := by
  unfold foldL
  rw [List.length_map]
  exact List.length_take_le _ _
theorem foldL_short {n : Nat} {ls : List (List Int)} {most : Nat} : ∀ c ∈ foldL n ls most, c.length ≤ 4 := fun c hc => by
  obtain ⟨d, _, rfl⟩ := List.mem_map.1 hc
  unfold foldC
  rw [List.length_map]
  exact List.length_take_le _ _
/-- Numbers that an int can be. -/
def Rng (ls : List (List Int)) : Prop := ∀ c ∈ ls, ∀ x ∈ c, -9223372036854775808 ≤ x ∧ x < 9223372036854775808
theorem fold_snoc {n : Nat} {c : List Int} {k : Nat} {x : Int} (h : c[k]? = some x) : (c.take (k + 1)).map (foldZ n) = (c.take k).map (foldZ n) ++ [foldZ n x] := by
  have hi := (List.getElem?_eq_some_iff.1 h).1
  rw [List.take_succ_eq_append_getElem hi, List.map_append, (List.getElem?_eq_some_iff.1 h).2]
  rfl
def FoldPost (w : World) (fs : List (List Int)) (e : Ending) (w' : World) : Prop := ∃ v, e = .returned v ∧ MadeR w.heap.size w' v fs ∧ Below w.heap.size w w'
set_option maxHeartbeats 4000000 in
theorem folded_c {n most : Nat} (hn1 : 1 ≤ n) (hn : n ≤ 400) (hm : most ≤ 200) {w : World} {vl : Value} {ls : List (List Int)} (hl : RowsV w vl ls) (hr : Rng ls) :
    Calls Try.prog 22 #[vl, .int .i64 (n : Int), .int .i64 (most : Int)] w (FoldPost w (foldL n ls most)) := by
  obtain ⟨Q, hQ⟩ : ∃ Q, FoldPost w (foldL n ls most) = Q := ⟨_, rfl⟩
  rw [hQ]
  replace hQ := Lib.hid hQ
  have HR := Lib.hid hr
  have HF := Lib.hid (fun (l : Int) (h0 : -9223372036854775808 ≤ l) (h1 : l < 9223372036854775808) (w : World) => fold_c hn1 hn h0 h1 w)
  obtain ⟨al, cl, f, hvl, hcl, hcell, hrows⟩ := hl
  subst hvl
  have HROWS := Lib.hid hrows
  obtain ⟨L, hLL⟩ : ∃ L, ls.length = L := ⟨_, rfl⟩
  have HCELL : Hid (∀ i, i < L → ∃ b off, al = some ⟨b, off, none⟩ ∧ b < w.heap.size ∧ w.cell? ⟨b, off + i, none⟩ = some (f i)) := fun i hi => by
    rcases hcell with h | ⟨b, off, h1, h2, h3⟩
    · rw [← hLL, h] at hi; cases hi
    · exact ⟨b, off, h1, h2, h3 i (by rw [hLL]; exact hi)⟩
  rw [hLL] at hcl ⊢
  have HLL := Lib.hid hLL
  clear hrows hcell hLL hr
  go_enter Try.func22, Try.ntmps22
  go_wp2_with fail
  go_loopg [7, 8] L (fun gk v7 v8 wx => ∃ (i : Nat) (vo : Value), vo = v7 ∧ v8 = .int .i64 (i : Int) ∧ i ≤ L ∧ i ≤ most ∧ L ≤ i + gk ∧ Hid (MadeR w.heap.size wx vo (foldL n ls i) ∧ Below w.heap.size w wx))
  case atStart => exact ⟨0, _, rfl, rfl, by omega, by omega, by omega, MadeR.nil _ _, Below.refl _ _⟩
  case round =>
    obtain ⟨gI, rfl⟩ : ∃ x : Nat, x = gk := ⟨_, rfl⟩
    obtain ⟨i, vo, rfl, rfl, hiL, him, hik, HM⟩ := hrel
    obtain ⟨w3, hw3⟩ : ∃ w3, wr = w3 := ⟨_, rfl⟩
    rw [hw3] at HM ⊢
    clear hw3
    have hlast : i = L ∨ i = most → Hid (Q (.returned vo) w3) := fun h => by
      show Q _ _
      rw [← hQ.out]
      have e : foldL n ls most = foldL n ls i := by
        rcases h with h | h
        · unfold foldL
          rw [List.take_of_length_le (by rw [HLL.out]; omega), List.take_of_length_le (by rw [HLL.out]; omega)]
        · rw [h]
      rw [e]
      exact ⟨vo, rfl, HM.out⟩
    by_cases hi : i < L
    · have hi1 : (i : Int) < (L : Int) := by omega
      by_cases hi2 : i < most
      · have hi3 : (i : Int) < (most : Int) := by omega
        clear hlast
        obtain ⟨c, hc⟩ : ∃ c, ls[i]? = some c := ⟨_, List.getElem?_eq_getElem (by rw [HLL.out]; exact hi)⟩
        obtain ⟨bb, off, hal, hbl, hcel⟩ := HCELL.out i hi
        obtain ⟨fa, fc, hfk, hfc, hints⟩ := HROWS.out i c hc
        obtain ⟨fn, hfn⟩ : ∃ fn, c.length = fn := ⟨_, rfl⟩
        rw [hfn] at hfk hfc
        have HC := Lib.hid hc
        have HFN := Lib.hid hfn
        rw [hfk] at hcel
        subst hal
        have HCEL := Lib.hid hcel
        have HIN : Hid (∀ k, k < fn → ∃ b o x, fa = some ⟨b, o, none⟩ ∧ c[k]? = some x ∧ w.cell? ⟨b, o + k, none⟩ = some (.int .i64 x)) := fun k hk => by
          have hk' : k < c.length := by omega
          rcases hints with h | ⟨b, o, h1, _, h3⟩
          · rw [h] at hk'; cases hk'
          · refine ⟨b, o, c[k], h1, List.getElem?_eq_getElem hk', ?_⟩
            have := h3 k hk'
            rw [List.getD, List.getElem?_eq_getElem hk'] at this
            exact this
        clear hc hfk hints hfn hcel hbl
        go_wp2_with fail
        go_loopg [9, 10] 4 (fun gk v9 v10 wx => ∃ (k : Nat) (vc : Value), vc = v9 ∧ v10 = .int .i64 (k : Int) ∧ k ≤ fn ∧ k ≤ 4 ∧ 4 ≤ k + gk ∧ Hid (OwnI w3 vc ((c.take k).map (foldZ n)) wx))
        case atStart => exact ⟨0, _, rfl, rfl, by omega, by omega, by omega, OwnI.nil _⟩
        case round =>
          obtain ⟨gJ, rfl⟩ : ∃ x : Nat, x = gk := ⟨_, rfl⟩
          obtain ⟨k, vc, rfl, rfl, hkf, hk4, hkk, HO⟩ := hrel
          obtain ⟨w4, hw4⟩ : ∃ w4, wr = w4 := ⟨_, rfl⟩
          rw [hw4] at HO ⊢
          clear hw4
          have HBW : Hid (Below w.heap.size w w4) := below_tr HM.out.2 (below_to HO.out.2 (Nat.le_refl _))
          have c1 := cell_tr HBW.out HCEL.out
          have hend : k = fn ∨ k = 4 → Hid (OwnI w3 vc (foldC n c) w4) := fun h => by
            have e : foldC n c = (c.take k).map (foldZ n) := by
              unfold foldC
              rcases h with h | h
              · rw [List.take_of_length_le (by rw [HFN.out]; omega), List.take_of_length_le (by rw [HFN.out]; omega)]
              · rw [h]
            show OwnI w3 vc (foldC n c) w4
            rw [e]
            exact HO.out
          have hdone : Hid (OwnI w3 vc (foldC n c) w4) → ∃ a7 n7 c7, vc = .slice a7 n7 c7 := fun h => by
            obtain ⟨a7, c7, e⟩ := ownsRow_slice h.out.1
            exact ⟨a7, _, c7, e⟩
          by_cases hk : k < fn
          · have hk1 : (k : Int) < (fn : Int) := by omega
            by_cases hk2 : k < 4
            · have hk3 : (k : Int) < 4 := by omega
              clear hend hdone
              obtain ⟨b, o, x, hfa, hx, hcx⟩ := HIN.out k hk
              have c2 := cell_tr HBW.out hcx
              have hxr := HR.out c (List.mem_of_getElem? HC.out) x (List.mem_of_getElem? hx)
              have HX := Lib.hid hx
              have HF2 := Lib.hid (HF.out x hxr.1 hxr.2 w4)
              subst hfa
              clear hcx hx hxr
              obtain ⟨z, hz⟩ : ∃ z, foldZ n x = z := ⟨_, rfl⟩
              rw [hz] at HF2
              have HZ := Lib.hid hz
              clear hz
              have HOW : Hid (∀ o, OwnI w3 vc ((c.take k).map (foldZ n)) (w4.alloc o)) := fun o => HO.out.below (below1 _ _)
              have HI : Hid (IntsV (w4.alloc (.cells #[.int .i64 z] 3)) (.slice (some ⟨w4.heap.size, 0, none⟩) 1 1) [z]) := ones (w := w4) (zs := [z]) rfl (Below.refl _ _) rfl
              have HL : Hid ((((c.take k).map (foldZ n)).length + 1) * 8 ≤ 140737488355328) := by
                show (((c.take k).map (foldZ n)).length + 1) * 8 ≤ 140737488355328
                have := List.length_take_le k c
                rw [List.length_map]
                omega
              go_wp2_with (first
                | (go_at_call 23; refine HF2.out.mono ?_; rintro e w5 ⟨rfl, rfl⟩)
                | (at_builtin; refine wpList_appI rfl (.tmp 35) (.tmp 45) rfl rfl rfl (HOW.out _) HI.out HL.out ?_; intro v9 w9 ho9 hg9; replace ho9 := Lib.hid ho9; clear hg9))
              go_roundg (gJ - 1)
              case measure => omega
              case rel => exact ⟨k + 1, _, rfl, by go_num, by omega, by omega, by omega, by
                show OwnI _ _ ((c.take (k + 1)).map (foldZ n)) _
                rw [fold_snoc HX.out, HZ.out]
                exact ho9.out⟩
            · have hk3 : ¬ (k : Int) < 4 := by omega
              have HE := hend (.inr (by omega))
              obtain ⟨a7, n7, c7, rfl⟩ := hdone HE
              clear hend hdone
              have HMM : Hid (∀ o, MadeR w.heap.size (w4.alloc o) vo (foldL n ls i)) := fun o => (HM.out.1.below HO.out.2).below (below1 _ _)
              have HRR : Hid (RowsO (w4.alloc (.cells #[.slice a7 n7 c7] 24)) vo (.slice (some ⟨w4.heap.size, 0, none⟩) 1 1) [foldC n c]) :=
                RowsO.one (boxN_alloc w4 [.slice a7 n7 c7] 24) (HE.out.ints.below (below1 _ _)) (OwnI.off HM.out.1 HE.out)
              have HL : Hid (((foldL n ls i).length + 1) * 24 ≤ 140737488355328) := by
                show ((foldL n ls i).length + 1) * 24 ≤ 140737488355328
                have := foldL_len n ls i
                omega
              have HSZ : Hid (Below w.heap.size w (w4.alloc (.cells #[.slice a7 n7 c7] 24))) := below_tr HBW.out (below1 _ _)
              go_wp2_with (at_builtin; refine wpList_appR rfl (.tmp 47) (.tmp 49) rfl rfl rfl (HMM.out _) HRR.out HL.out HSZ.out.size ?_; intro v9 w9 hm9 hb9; replace hm9 := Lib.hid hm9; replace hb9 := Lib.hid hb9)
              go_roundg (gI - 1)
              case measure => omega
              case rel => exact ⟨i + 1, _, rfl, by go_num, by omega, by omega, by omega, by
                rw [foldL_succ HC.out]
                exact hm9.out, HSZ.out.trans hb9.out⟩
          · have hk3 : ¬ (k : Int) < (fn : Int) := by omega
            have HE := hend (.inl (by omega))
            obtain ⟨a7, n7, c7, rfl⟩ := hdone HE
            clear hend hdone
            have HMM : Hid (∀ o, MadeR w.heap.size (w4.alloc o) vo (foldL n ls i)) := fun o => (HM.out.1.below HO.out.2).below (below1 _ _)
            have HRR : Hid (RowsO (w4.alloc (.cells #[.slice a7 n7 c7] 24)) vo (.slice (some ⟨w4.heap.size, 0, none⟩) 1 1) [foldC n c]) :=
              RowsO.one (boxN_alloc w4 [.slice a7 n7 c7] 24) (HE.out.ints.below (below1 _ _)) (OwnI.off HM.out.1 HE.out)
            have HL : Hid (((foldL n ls i).length + 1) * 24 ≤ 140737488355328) := by
              show ((foldL n ls i).length + 1) * 24 ≤ 140737488355328
              have := foldL_len n ls i
              omega
            have HSZ : Hid (Below w.heap.size w (w4.alloc (.cells #[.slice a7 n7 c7] 24))) := below_tr HBW.out (below1 _ _)
            go_wp2_with (at_builtin; refine wpList_appR rfl (.tmp 47) (.tmp 49) rfl rfl rfl (HMM.out _) HRR.out HL.out HSZ.out.size ?_; intro v9 w9 hm9 hb9; replace hm9 := Lib.hid hm9; replace hb9 := Lib.hid hb9)
            go_roundg (gI - 1)
            case measure => omega
            case rel => exact ⟨i + 1, _, rfl, by go_num, by omega, by omega, by omega, by
              rw [foldL_succ HC.out]
              exact hm9.out, HSZ.out.trans hb9.out⟩
      · have HQ := hlast (.inr (by omega))
        have hi3 : ¬ (i : Int) < (most : Int) := by omega
        clear hlast
        go_wp2_with fail
        exact HQ.out
    · have HQ := hlast (.inl (by omega))
      have hi3 : ¬ (i : Int) < (L : Int) := by omega
      clear hlast
      go_wp2_with fail
      exact HQ.out
end Go.Proofs.Ytkeagjphddcjeaa
