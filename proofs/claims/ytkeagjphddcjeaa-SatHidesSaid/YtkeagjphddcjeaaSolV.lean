/-
  Check of the document; clauses that are refused; copies of clauses, and whether they stayed. Helper text; the conditions are those typed.
-/
import Derived.Test.YtkeagjphddcjeaaSolU
namespace Go.Proofs.Ytkeagjphddcjeaa
set_option linter.unusedVariables false
set_option linter.unusedSimpArgs false
open Go.RowKit Go.Maps Sat

/-- Rows that are read one by one. -/
theorem IntsV.each {w : World} {v : Value} {c : List Int} (h : IntsV w v c) : ∃ a n cap, v = .slice a n cap ∧ n = c.length ∧ n ≤ cap ∧ ∀ k, k < n → ∃ b o x, a = some ⟨b, o, none⟩ ∧ c[k]? = some x ∧ w.cell? ⟨b, o + k, none⟩ = some (.int .i64 x) := by
  obtain ⟨a, cap, rfl, hc, hints⟩ := h
  refine ⟨a, _, cap, rfl, rfl, hc, fun k hk => ?_⟩
  rcases hints with h | ⟨b, o, h1, _, h3⟩
  · rw [h] at hk; cases hk
  · refine ⟨b, o, c[k], h1, List.getElem?_eq_getElem hk, ?_⟩
    have := h3 k hk
    rw [List.getD, List.getElem?_eq_getElem hk] at this
    exact this
theorem RowsV.each {w : World} {v : Value} {ls : List (List Int)} (h : RowsV w v ls) : ∃ a n cap, v = .slice a n cap ∧ n = ls.length ∧ n ≤ cap ∧ ∀ k, k < n → ∃ b o c x m y, a = some ⟨b, o, none⟩ ∧ ls[k]? = some c ∧ w.cell? ⟨b, o + k, none⟩ = some (.slice x m y) ∧ IntsV w (.slice x m y) c := by
  obtain ⟨a, cap, f, rfl, hcap, hcell, hrows⟩ := h
  refine ⟨a, _, cap, rfl, rfl, hcap, fun k hk => ?_⟩
  rcases hcell with h | ⟨b, o, h1, _, h3⟩
  · rw [h] at hk; cases hk
  · have h4 := hrows k ls[k] (List.getElem?_eq_getElem hk)
    have h4' := h4
    obtain ⟨x, y, e, _, _⟩ := h4'
    have h5 := h3 k hk
    rw [e] at h4 h5
    exact ⟨b, o, ls[k], x, _, y, h1, List.getElem?_eq_getElem hk, h5, h4⟩
theorem any_snoc {α : Type} {p : α → Bool} {l : List α} {k : Nat} {x : α} (h : l[k]? = some x) (hk : (l.take k).any p = false) : (l.take (k + 1)).any p = p x := by
  have hi := (List.getElem?_eq_some_iff.1 h).1
  rw [List.take_succ_eq_append_getElem hi, List.any_append, hk, (List.getElem?_eq_some_iff.1 h).2]
  simp
/-- What is wrong with literals. -/
def chkN (n : Nat) (ls : List (List Int)) (pr : List Int) : Int := if litsB n ls pr = true then 0 else 170
theorem chk_row {n : Nat} {ls : List (List Int)} {pr c : List Int} {x : Int} (hc : c ∈ ls) (hx : x ∈ c) (ho : oddB n x = true) : chkN n ls pr = 170 := by
  unfold chkN
  rw [if_neg]
  intro h
  have := oddB_ok.2 ((litsB_ok.1 h).1 c hc x hx)
  rw [ho] at this
  cases this
theorem chk_pr {n : Nat} {ls : List (List Int)} {pr : List Int} {x : Int} (hx : x ∈ pr) (ho : oddB n x = true) : chkN n ls pr = 170 := by
  unfold chkN
  rw [if_neg]
  intro h
  have := oddB_ok.2 ((litsB_ok.1 h).2 x hx)
  rw [ho] at this
  cases this
theorem chk_ok {n : Nat} {ls : List (List Int)} {pr : List Int} (h1 : ls.any (fun c => c.any (oddB n)) = false) (h2 : pr.any (oddB n) = false) : chkN n ls pr = 0 := by
  unfold chkN litsB
  rw [h1, h2]
  rfl

set_option maxHeartbeats 4000000 in
theorem refcheck_c {n : Nat} (hn : n ≤ 400) {w : World} {vl vp : Value} {ls : List (List Int)} {pr : List Int} (hl : RowsV w vl ls) (hp : IntsV w vp pr) (hls : ls.length ≤ 9223372036854775807) (hlb : ∀ c ∈ ls, c.length ≤ 9223372036854775807) (hpb : pr.length ≤ 9223372036854775807) :
    Calls Try.prog 12 #[.int .i64 (n : Int), vl, vp] w fun e w' => e = .returned (.int .i64 (chkN n ls pr)) ∧ w' = w := by
  obtain ⟨r, hr⟩ : ∃ r, chkN n ls pr = r := ⟨_, rfl⟩
  rw [hr]
  have HR := Lib.hid hr
  have HLB := Lib.hid hlb
  obtain ⟨al, L, cl, rfl, hL, hcl, hrow⟩ := hl.each
  obtain ⟨ap, P, cp, rfl, hP, hcp, hin⟩ := hp.each
  have HROW := Lib.hid hrow
  have HIN := Lib.hid hin
  rw [← hL] at hls
  rw [← hP] at hpb
  have HL := Lib.hid hL
  have HP := Lib.hid hP
  clear hl hp hr hlb hrow hin hL hP
  go_enter Try.func12, Try.ntmps12
  go_wp2_with fail
  go_loopg [7] L (fun gk v7 wx => ∃ i : Nat, v7 = .int .i64 (i : Int) ∧ i ≤ L ∧ L ≤ i + gk ∧ wx = w ∧ Hid ((ls.take i).any (fun c => c.any (oddB n)) = false))
  case atStart => exact ⟨0, rfl, by omega, by omega, rfl, rfl⟩
  case round =>
    obtain ⟨gI, rfl⟩ : ∃ x : Nat, x = gk := ⟨_, rfl⟩
    obtain ⟨i, rfl, hiL, hik, rfl, HI⟩ := hrel
    by_cases hi : i < L
    · have hi1 : (i : Int) < (L : Int) := by omega
      obtain ⟨b, o, c, x, m, y, hfa, hc, hcx, hiv⟩ := HROW.out i hi
      obtain ⟨ax, mm, cx, hv, hmm, hcx2, hinx⟩ := hiv.each
      obtain ⟨rfl, rfl, rfl⟩ : x = ax ∧ m = mm ∧ y = cx := by
        cases hv
        exact ⟨rfl, rfl, rfl⟩
      subst hfa
      have HC := Lib.hid hc
      have HINX := Lib.hid hinx
      have hmb : m ≤ 9223372036854775807 := by
        rw [hmm]
        exact HLB.out c (List.mem_of_getElem? hc)
      have HMM := Lib.hid hmm
      clear hc hiv hv hmm hinx
      obtain ⟨w, rfl⟩ : ∃ x : World, x = wr := ⟨_, rfl⟩
      go_wp2_with fail
      go_loopg [8] m (fun gk v8 wx => ∃ k : Nat, v8 = .int .i64 (k : Int) ∧ k ≤ m ∧ m ≤ k + gk ∧ wx = w ∧ Hid ((c.take k).any (oddB n) = false))
      case atStart => exact ⟨0, rfl, by omega, by omega, rfl, rfl⟩
      case round =>
        obtain ⟨gJ, rfl⟩ : ∃ x : Nat, x = gk := ⟨_, rfl⟩
        obtain ⟨k, rfl, hkm, hkk, rfl, HK⟩ := hrel
        by_cases hk : k < m
        · have hk1 : (k : Int) < (m : Int) := by omega
          obtain ⟨b2, o2, z, hfb, hz, hcz⟩ := HINX.out k hk
          subst hfb
          have HS := Lib.hid (any_snoc hz HK.out)
          have HBAD : Hid (oddB n z = true → r = 170) := fun h => by
            rw [← HR.out]
            exact chk_row (List.mem_of_getElem? HC.out) (List.mem_of_getElem? hz) h
          clear hz
          by_cases h1 : z = 0
          · have e1 : (z == 0) = true := by simp [h1]
            have e2 : r = 170 := HBAD.out (by rw [h1]; rfl)
            subst e2
            clear h1
            go_wp2_with fail
            go_ret
            exact ⟨rfl, rfl⟩
          · have e1 : (z == 0) = false := by simp [h1]
            by_cases h2 : (n : Int) < z
            · have e2 : r = 170 := HBAD.out (by unfold oddB; simp [h2])
              subst e2
              clear h1
              go_wp2_with fail
              go_ret
              exact ⟨rfl, rfl⟩
            · by_cases h3 : z < -(n : Int)
              · have e2 : r = 170 := HBAD.out (by unfold oddB; simp [h3])
                subst e2
                clear h1
                go_wp2_with fail
                go_ret
                exact ⟨rfl, rfl⟩
              · have e2 : oddB n z = false := by unfold oddB; simp [h1, h2, h3]
                have HS2 : Hid ((c.take (k + 1)).any (oddB n) = false) := HS.out.trans e2
                clear h1 e2
                go_wp2_with fail
                go_roundg (gJ - 1)
                case measure => omega
                case rel => exact ⟨k + 1, by go_num, by omega, by omega, rfl, HS2.out⟩
        · have hk1 : ¬ (k : Int) < (m : Int) := by omega
          have HS : Hid ((ls.take (i + 1)).any (fun c => c.any (oddB n)) = false) := by
            have h1 := any_snoc HC.out HI.out
            have h2 := HK.out
            rw [List.take_of_length_le (by rw [← HMM.out]; omega)] at h2
            exact h1.trans h2
          go_wp2_with fail
          go_roundg (gI - 1)
          case measure => omega
          case rel => exact ⟨i + 1, by go_num, by omega, by omega, rfl, HS.out⟩
    · have hi1 : ¬ (i : Int) < (L : Int) := by omega
      have HA : Hid (ls.any (fun c => c.any (oddB n)) = false) := by
        have := HI.out
        rw [List.take_of_length_le (by rw [← HL.out]; omega)] at this
        exact this
      obtain ⟨w, rfl⟩ : ∃ x : World, x = wr := ⟨_, rfl⟩
      go_wp2_with fail
      go_loopg [10] P (fun gk v10 wx => ∃ k : Nat, v10 = .int .i64 (k : Int) ∧ k ≤ P ∧ P ≤ k + gk ∧ wx = w ∧ Hid ((pr.take k).any (oddB n) = false))
      case atStart => exact ⟨0, rfl, by omega, by omega, rfl, rfl⟩
      case round =>
        obtain ⟨gJ, rfl⟩ : ∃ x : Nat, x = gk := ⟨_, rfl⟩
        obtain ⟨k, rfl, hkm, hkk, rfl, HK⟩ := hrel
        by_cases hk : k < P
        · have hk1 : (k : Int) < (P : Int) := by omega
          obtain ⟨b2, o2, z, hfb, hz, hcz⟩ := HIN.out k hk
          subst hfb
          have HS := Lib.hid (any_snoc hz HK.out)
          have HBAD : Hid (oddB n z = true → r = 170) := fun h => by
            rw [← HR.out]
            exact chk_pr (List.mem_of_getElem? hz) h
          clear hz
          by_cases h1 : z = 0
          · have e1 : (z == 0) = true := by simp [h1]
            have e2 : r = 170 := HBAD.out (by rw [h1]; rfl)
            subst e2
            clear h1
            go_wp2_with fail
            go_ret
            exact ⟨rfl, rfl⟩
          · have e1 : (z == 0) = false := by simp [h1]
            by_cases h2 : (n : Int) < z
            · have e2 : r = 170 := HBAD.out (by unfold oddB; simp [h2])
              subst e2
              clear h1
              go_wp2_with fail
              go_ret
              exact ⟨rfl, rfl⟩
            · by_cases h3 : z < -(n : Int)
              · have e2 : r = 170 := HBAD.out (by unfold oddB; simp [h3])
                subst e2
                clear h1
                go_wp2_with fail
                go_ret
                exact ⟨rfl, rfl⟩
              · have e2 : oddB n z = false := by unfold oddB; simp [h1, h2, h3]
                have HS2 : Hid ((pr.take (k + 1)).any (oddB n) = false) := HS.out.trans e2
                clear h1 e2
                go_wp2_with fail
                go_roundg (gJ - 1)
                case measure => omega
                case rel => exact ⟨k + 1, by go_num, by omega, by omega, rfl, HS2.out⟩
        · have hk1 : ¬ (k : Int) < (P : Int) := by omega
          have e2 : r = 0 := by
            have h2 := HK.out
            rw [List.take_of_length_le (by rw [← HP.out]; omega)] at h2
            rw [← HR.out]
            exact chk_ok HA.out h2
          subst e2
          go_wp2_with fail
          go_ret
          exact ⟨rfl, rfl⟩
/-- A number of variables that is none. -/
theorem refcheck_many {z : Int} (hz : z < 0 ∨ 400 < z) (vl vp : Value) (w : World) : Calls Try.prog 12 #[.int .i64 z, vl, vp] w fun e w' => e = .returned (.int .i64 171) ∧ w' = w := by
  by_cases h : z < 0
  · clear hz
    go_enter Try.func12, Try.ntmps12
    go_wp2_with fail
    go_ret
    exact ⟨rfl, rfl⟩
  · have h2 : 400 < z := by omega
    clear hz
    go_enter Try.func12, Try.ntmps12
    go_wp2_with fail
    go_ret
    exact ⟨rfl, rfl⟩
set_option maxRecDepth 100000 in
theorem solve_bad {z q : Int} {vl vp : Value} {w : World} (hq : (q == 0) = false) (h : Calls Try.prog 27 #[.int .i64 z, vl, vp] w fun e w' => e = .returned (.int .i64 q) ∧ Below w.heap.size w w') :
    Calls Try.prog 14 #[.int .i64 z, vl, vp] w fun e w' => e = .returned (.tuple #[.slice none 0 0, .bool false, .int .i64 q]) ∧ Below w.heap.size w w' := by
  have H := Lib.hid h
  clear h
  have hq2 : (q != 0) = true := by simp [bne, hq]
  go_enter Try.func14, Try.ntmps14
  go_wp2_with fail
  refine wp_scope_ghost 0 (fun _ _ _ => False) rfl (fun k x wr h => h.elim) ?_
  intro hx
  clear hx
  go_wp2_with fail
  refine H.out.mono ?_
  rintro e w1 ⟨rfl, hb⟩
  have HB := Lib.hid hb
  clear hb
  go_wp2_with fail
  dsimp only [Exit.jump, Exit.noGoto, Exit.inBlock, Exit.then]
  exact bodyPost_ret (v := .tuple #[.slice none 0 0, .bool false, .int .i64 q]) (by simp [results, Try.results14, go_sem]) rfl ⟨rfl, HB.out⟩

set_option maxHeartbeats 4000000 in
set_option maxRecDepth 100000 in
theorem lawown_c {w : World} {vl : Value} {ls : List (List Int)} (hl : RowsV w vl ls) (hls : ls.length * 24 ≤ 140737488355328) (hlb : ∀ c ∈ ls, c.length * 8 ≤ 140737488355328) :
    Calls Try.prog 13 #[vl] w (FoldPost w ls) := by
  obtain ⟨Q, hQ⟩ : ∃ Q, FoldPost w ls = Q := ⟨_, rfl⟩
  rw [hQ]
  replace hQ := Lib.hid hQ
  have HLB := Lib.hid hlb
  obtain ⟨al, L, cl, rfl, hL, hcl, hrow⟩ := hl.each
  have HROW := Lib.hid hrow
  rw [← hL] at hls
  have HL := Lib.hid hL
  clear hl hlb hrow hL
  go_enter Try.func13, Try.ntmps13
  go_wp2_with fail
  go_loopg [3, 4] L (fun gk v3 v4 wx => ∃ (i : Nat) (vo : Value), vo = v3 ∧ v4 = .int .i64 (i : Int) ∧ i ≤ L ∧ L ≤ i + gk ∧ Hid (MadeR w.heap.size wx vo (ls.take i) ∧ Below w.heap.size w wx))
  case atStart => exact ⟨0, _, rfl, rfl, by omega, by omega, MadeR.nil _ _, Below.refl _ _⟩
  case round =>
    obtain ⟨gI, rfl⟩ : ∃ x : Nat, x = gk := ⟨_, rfl⟩
    obtain ⟨i, vo, rfl, rfl, hiL, hik, HM⟩ := hrel
    obtain ⟨w3, hw3⟩ : ∃ w3, wr = w3 := ⟨_, rfl⟩
    rw [hw3] at HM ⊢
    clear hw3
    by_cases hi : i < L
    · have hi1 : (i : Int) < (L : Int) := by omega
      obtain ⟨b, o, c, x, m, y, hfa, hc, hcx, hiv⟩ := HROW.out i hi
      subst hfa
      have c1 := cell_tr (below_tr HM.out.2 (below1 w3 (.cells #[] 3))) hcx
      have HIV3 : Hid (IntsV (w3.alloc (.cells #[] 3)) (.slice x m y) c) := hiv.below (below_tr HM.out.2 (below1 w3 _))
      have HF : Hid (OwnI w3 (.slice (some ⟨w3.heap.size, 0, none⟩) 0 0) [] (w3.alloc (.cells #[] 3))) := OwnI.fresh (Below.refl _ _) rfl
      have hcl2 := HLB.out c (List.mem_of_getElem? hc)
      have HL1 : Hid ((([] : List Int).length + c.length) * 8 ≤ 140737488355328) := by
        show (([] : List Int).length + c.length) * 8 ≤ 140737488355328
        rw [List.length_nil, Nat.zero_add]
        exact hcl2
      have HTK : Hid (ls.take (i + 1) = ls.take i ++ [c]) := by
        have hi' := (List.getElem?_eq_some_iff.1 hc).1
        show ls.take (i + 1) = ls.take i ++ [c]
        rw [List.take_succ_eq_append_getElem hi', (List.getElem?_eq_some_iff.1 hc).2]
      have HL2 : Hid (((ls.take i).length + 1) * 24 ≤ 140737488355328) := by
        show ((ls.take i).length + 1) * 24 ≤ 140737488355328
        have := List.length_take_le i ls
        omega
      have HAPP : Hid (∀ (W : World) (v : Value), OwnI w3 v ([] ++ c) W → MadeR w.heap.size (W.alloc (.cells #[v] 24)) vo (ls.take i) ∧ RowsO (W.alloc (.cells #[v] 24)) vo (.slice (some ⟨W.heap.size, 0, none⟩) 1 1) [c] ∧ Below w.heap.size w (W.alloc (.cells #[v] 24))) := fun W v hk => by
        rw [List.nil_append] at hk
        exact ⟨(HM.out.1.below hk.2).below (below1 _ _), RowsO.one (boxN_alloc W [v] 24) (hk.ints.below (below1 _ _)) (OwnI.off HM.out.1 hk), below_tr (below_tr HM.out.2 hk.2) (below1 _ _)⟩
      clear hc hcx hiv hcl2
      go_wp2_with (at_builtin; first
        | (refine wpList_appI rfl (.tmp 12) (.tmp 16) rfl rfl rfl HF.out HIV3.out HL1.out ?_; intro v5 w5 h5 hg5; obtain ⟨a7, n7, c7, rfl⟩ : ∃ (a : Option Addr) (m c : Nat), v5 = .slice a m c := by { obtain ⟨a, c, e⟩ := ownsRow_slice h5.1; exact ⟨a, _, c, e⟩ }; have HA := Lib.hid (HAPP.out w5 _ h5); clear h5 hg5)
        | (refine wpList_appR rfl (.tmp 11) (.tmp 18) rfl rfl rfl HA.out.1 HA.out.2.1 HL2.out HA.out.2.2.size ?_; intro v9 w9 hm9 hb9; replace hm9 := Lib.hid hm9; replace hb9 := Lib.hid hb9))
      go_roundg (gI - 1)
      case measure => omega
      case rel => exact ⟨i + 1, _, rfl, by go_num, by omega, by omega, by
        rw [HTK.out]
        exact hm9.out, HA.out.2.2.trans hb9.out⟩
    · have HQ : Hid (Q (.returned vo) w3) := by
        show Q _ _
        rw [← hQ.out]
        have e : ls.take i = ls := List.take_of_length_le (by rw [← HL.out]; omega)
        refine ⟨vo, rfl, ?_, HM.out.2⟩
        have := HM.out.1
        rw [e] at this
        exact this
      have hi3 : ¬ (i : Int) < (L : Int) := by omega
      go_wp2_with fail
      exact HQ.out

set_option maxHeartbeats 4000000 in
theorem still_c {w : World} {va vb : Value} {ls : List (List Int)} (ha : RowsV w va ls) (hb : RowsV w vb ls) (hls : ls.length ≤ 9223372036854775807) (hlb : ∀ c ∈ ls, c.length ≤ maxLen) :
    Calls Try.prog 15 #[va, vb] w fun e w' => e = .returned (.bool true) ∧ ∃ q, w' = w.drewN q := by
  have HLB := Lib.hid hlb
  obtain ⟨aa, L, ca, rfl, hL, hca, hrow⟩ := ha.each
  obtain ⟨ab, L2, cb, rfl, hL2, hcb, hrow2⟩ := hb.each
  have e : L2 = L := by omega
  subst e
  have HROW := Lib.hid hrow
  have HROW2 := Lib.hid hrow2
  rw [← hL] at hls
  have HL := Lib.hid hL
  clear ha hb hlb hrow hrow2 hL hL2
  go_enter Try.func15, Try.ntmps15
  go_wp2_with fail
  go_loopg [5] L2 (fun gk v5 wx => ∃ i q : Nat, v5 = .int .i64 (i : Int) ∧ i ≤ L2 ∧ L2 ≤ i + gk ∧ wx = w.drewN q)
  case atStart => exact ⟨0, 0, rfl, by omega, by omega, rfl⟩
  case round =>
    obtain ⟨gI, rfl⟩ : ∃ x : Nat, x = gk := ⟨_, rfl⟩
    obtain ⟨i, q, rfl, hiL, hik, rfl⟩ := hrel
    by_cases hi : i < L2
    · have hi1 : (i : Int) < (L2 : Int) := by omega
      obtain ⟨b, o, c, x, m, y, hfa, hc, hcx, hiv⟩ := HROW.out i hi
      obtain ⟨b2, o2, c2, x2, m2, y2, hfa2, hc2, hcx2, hiv2⟩ := HROW2.out i hi
      rw [hc] at hc2
      cases hc2
      subst hfa hfa2
      have d1 : (w.drewN q).cell? ⟨b, o + i, none⟩ = some (.slice x m y) := hcx
      have d2 : (w.drewN q).cell? ⟨b2, o2 + i, none⟩ = some (.slice x2 m2 y2) := hcx2
      obtain ⟨w6, hw6⟩ : ∃ w6, w.drewN q = w6 := ⟨_, rfl⟩
      have HW6 := Lib.hid hw6
      have HB6 : Hid (Below w.heap.size w w6) := by
        rw [← hw6]
        exact below_dr (Below.refl _ _) q
      rw [hw6] at d1 d2 ⊢
      have hm := HLB.out c (List.mem_of_getElem? hc)
      have HSM : Hid (∀ W, Below w6.heap.size w6 W → Calls Try.prog 20 #[.slice x m y, .slice x2 m2 y2] W fun e w' => e = .returned (.bool true) ∧ ∃ n, w' = W.drewN n) := fun W hb => by
        have := sameI_c (hiv.below (below_tr HB6.out hb)) (hiv2.below (below_tr HB6.out hb)) hm hm
        rw [show decide (c = c) = true from by simp] at this
        exact this
      clear hc hcx hcx2 hiv hiv2 hw6 hm
      go_upto_region 4 with fail
      go_quiet ((go_at_call 20; exact Calls.quiet_of (HSM.out _ (below_dr (Below.refl _ _) _))))
      go_wp2_with fail
      go_roundg (gI - 1)
      case measure => omega
      case rel => exact ⟨i + 1, _, by go_num, by omega, by omega, by rw [← HW6.out, World.drewN_drewN]⟩
    · have hi1 : ¬ (i : Int) < (L2 : Int) := by omega
      go_wp2_with fail
      go_ret
      exact ⟨rfl, q, rfl⟩
end Go.Proofs.Ytkeagjphddcjeaa
